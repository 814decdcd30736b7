/- Every call of the table, as act tells it. -/
import Derived.Test.YtmphnoabkmoafaaGreatDoorM31
import Derived.Test.YtmphnoabkmoafaaGreatDoorM32
import Derived.Test.YtmphnoabkmoafaaGreatDoorM33
import Derived.Test.YtmphnoabkmoafaaGreatDoorM34
namespace Go.Proofs.YtmphnoabkmoafaaGreatDoor
open Go.RowKit Go.Maps
set_option linter.unusedVariables false
variable {uu0 : Unit} [Base uu0]
/-- What the table is behind a call. -/
def ActP (o : OpP) (L : List PR) (w : World) (B T M : Nat) (w' : World) : Prop := ∃ bl', TabAt w' B T M bl' (act o L).2 ∧ Bel B w w'
theorem act_no {o : OpP} {L : List PR} (h : ofCode L o.who ≠ 0) (hk : isAct o.kind = true) : act o L = (errT (ofCode L o.who), L) := by
  unfold ofCode at h ⊢
  unfold act
  cases hg : get L o.who with
  | none => simp only [hk, if_true]
  | some p =>
    rw [hg] at h
    simp only at h ⊢
    cases hx : p.exited
    · rw [hx] at h; simp at h
    · simp only [hk, if_true]
theorem act_live {o : OpP} {L : List PR} {p : PR} (hg : get L o.who = some p) (hx : p.exited = false) : act o L = actLive o p L := by
  unfold act
  rw [hg]
  simp [hx]
section
variable {tot : Int} (B T M : Nat) (bl : ByteArray → Nat) (L : List PR) (o : OpP) (w : World)
set_option maxRecDepth 100000 in
theorem pending_no (h : TabAt w B T M bl L) (hid : o.who.size ≤ maxLen) (hc : ofCode L o.who ≠ 0) :
    Calls Tryz.prog 36 #[ptr T, .string o.who] w fun e w' => e = .returned (.tuple #[.int .i64 0, .bool false]) ∧ w' = w := by
  have ho := of_any B T M bl L o.who w h hid
  rcases of_cases bl L o.who with ⟨p, hg, hx, e1, e2⟩ | ⟨e1, e2, e3⟩
  · exact absurd e2 hc
  · rw [e1] at ho
    generalize ofCode L o.who = c at *
    generalize o.who = id at *
    unfold ptr at *
    go_enter Tryz.func36, Tryz.ntmps36
    go_wp2_with (go_at_call 23; refine ho.mono ?_; rintro e w1 ⟨rfl, rfl⟩)
    go_ret2
    exact ⟨rfl, rfl⟩
theorem fork_t (h : TabAt w B T M bl L) (hG : Good tot L) (hk : o.kind = 0) (hid : o.who.size ≤ maxLen) :
    Calls Tryz.prog 27 #[ptr T, .string o.who, .int .i64 o.a] w fun e w' => e = .returned (.tuple #[.string (act o L).1.s, .int .i64 (act o L).1.e]) ∧ ActP o L w B T M w' := by
  obtain ⟨th, hi⟩ := hG.inv
  unfold ActP
  by_cases hc : ofCode L o.who = 0
  · rcases of_cases bl L o.who with ⟨p, hg, hx, e1, e2⟩ | ⟨e1, e2, e3⟩
    · have ha := act_live hg hx
      have hfe : forkErr L o.who o.a = forkC p o.who o.a := by unfold forkErr forkC; rw [hg]; simp [hx]
      unfold actLive at ha
      rw [if_pos hk] at ha
      unfold forkA at ha
      by_cases h0 : forkC p o.who o.a = 0
      · rw [if_pos h0] at ha
        rw [ha]
        unfold forkC at h0
        have h1 : ¬ o.a < 0 := fun k => by rw [if_pos k] at h0; omega
        rw [if_neg h1] at h0
        have h2 : ¬ (p.share ≤ o.a ∨ 9 ≤ p.forks ∨ 15 ≤ o.who.size) := fun k => by rw [if_pos k] at h0; omega
        refine (fork_ok B T M bl L o.who o.a w p h (hi.fine p (get_mem hg).1) hg hx (by omega) (by omega) (by omega) (by omega) (by have := hi.len; omega)).mono ?_
        rintro e w' ⟨bl', rfl, t, b⟩
        exact ⟨rfl, bl', t, b⟩
      · rw [if_neg h0] at ha
        rw [ha]
        refine (fork_no B T M bl L o.who o.a w h hi.fine hid (by rw [hfe]; exact h0)).mono ?_
        rintro e w' ⟨rfl, rfl⟩
        exact ⟨by rw [hfe]; rfl, bl, h, Bel.refl _ _⟩
    · exact absurd hc e2
  · rw [act_no hc (by rw [hk]; rfl)]
    have hfe : forkErr L o.who o.a = ofCode L o.who := by
      unfold forkErr ofCode
      unfold ofCode at hc
      cases hg : get L o.who with
      | none => rfl
      | some p =>
        rw [hg] at hc
        simp only at hc ⊢
        cases hx : p.exited
        · rw [hx] at hc; simp at hc
        · rfl
    refine (fork_no B T M bl L o.who o.a w h hi.fine hid (by rw [hfe]; exact hc)).mono ?_
    rintro e w' ⟨rfl, rfl⟩
    exact ⟨by rw [hfe]; rfl, bl, h, Bel.refl _ _⟩
theorem exit_t (h : TabAt w B T M bl L) (hG : Good tot L) (hk : o.kind = 1) (hid : o.who.size ≤ maxLen) :
    Calls Tryz.prog 28 #[ptr T, .string o.who, .int .i64 o.a] w fun e w' => e = .returned (.int .i64 (act o L).1.e) ∧ ActP o L w B T M w' := by
  unfold ActP
  by_cases hc : ofCode L o.who = 0
  · rcases of_cases bl L o.who with ⟨p, hg, hx, e1, e2⟩ | ⟨e1, e2, e3⟩
    · have ha := act_live hg hx
      unfold actLive at ha
      rw [if_neg (by omega), if_pos hk] at ha
      unfold exitA at ha
      by_cases h1 : o.who = oneB
      · rw [if_pos h1] at ha
        rw [ha]
        have he : exitErr L o.who = 1 := by unfold exitErr; rw [hg]; simp only [hx]; rw [if_pos h1]; rfl
        refine (exit_no B T M bl L o.who o.a w h hid (by rw [he]; decide)).mono ?_
        rintro e w' ⟨rfl, rfl⟩
        exact ⟨by rw [he]; rfl, bl, h, Bel.refl _ _⟩
      · rw [if_neg h1] at ha
        rw [ha]
        refine (exit_ok B T M bl L o.who o.a w p h hid hg hx h1).mono ?_
        rintro e w' ⟨rfl, t, b⟩
        exact ⟨rfl, bl, t, b⟩
    · exact absurd hc e2
  · rw [act_no hc (by rw [hk]; rfl)]
    have hfe : exitErr L o.who = ofCode L o.who := by
      unfold exitErr ofCode
      unfold ofCode at hc
      cases hg : get L o.who with
      | none => rfl
      | some p =>
        rw [hg] at hc
        simp only at hc ⊢
        cases hx : p.exited
        · rw [hx] at hc; simp at hc
        · rfl
    refine (exit_no B T M bl L o.who o.a w h hid (by rw [hfe]; exact hc)).mono ?_
    rintro e w' ⟨rfl, rfl⟩
    exact ⟨by rw [hfe]; rfl, bl, h, Bel.refl _ _⟩
theorem wait_t (h : TabAt w B T M bl L) (hG : Good tot L) (hk : o.kind = 2) (hid : o.who.size ≤ maxLen) :
    Calls Tryz.prog 29 #[ptr T, .string o.who] w fun e w' => e = .returned (.tuple #[.string (act o L).1.s, .int .i64 (act o L).1.n, .int .i64 (act o L).1.e]) ∧ ActP o L w B T M w' := by
  obtain ⟨th, hi⟩ := hG.inv
  unfold ActP
  by_cases hc : ofCode L o.who = 0
  · rcases of_cases bl L o.who with ⟨p, hg, hx, e1, e2⟩ | ⟨e1, e2, e3⟩
    · have ha := act_live hg hx
      unfold actLive at ha
      rw [if_neg (by omega), if_neg (by omega), if_pos hk] at ha
      rw [ha]
      unfold waitA
      refine (wait_live B T M bl L o.who w p h hi.fine hg hx (by have := hi.len; omega)).mono ?_
      rintro e w' ⟨⟨c, hf, rfl, t⟩ | ⟨hf, rfl, t⟩, b⟩
      · rw [hf]
        exact ⟨rfl, bl, t, b⟩
      · rw [hf]
        refine ⟨?_, bl, t, b⟩
        simp only [errT, waitCode, hf]
        rfl
    · exact absurd hc e2
  · rw [act_no hc (by rw [hk]; rfl)]
    refine (wait_no B T M bl L o.who w h hid hc).mono ?_
    rintro e w' ⟨rfl, rfl⟩
    exact ⟨rfl, bl, h, Bel.refl _ _⟩
theorem tag_t (h : TabAt w B T M bl L) (hG : Good tot L) (hk : o.kind = 3) (hid : o.who.size ≤ maxLen) :
    Calls Tryz.prog 7 #[ptr T, .string o.who] w fun e w' => e = .returned (.tuple #[.int .i64 (act o L).1.n, .int .i64 (act o L).1.e]) ∧ ActP o L w B T M w' := by
  obtain ⟨th, hi⟩ := hG.inv
  unfold ActP
  by_cases hc : ofCode L o.who = 0
  · rcases of_cases bl L o.who with ⟨p, hg, hx, e1, e2⟩ | ⟨e1, e2, e3⟩
    · have ha := act_live hg hx
      unfold actLive at ha
      rw [if_neg (by omega), if_neg (by omega), if_neg (by omega), if_pos hk] at ha
      rw [ha]
      unfold tagA
      cases hok : tagOk p
      · refine (tag_many B T M bl L o.who w p h (hi.fine p (get_mem hg).1) hg hx hok).mono ?_
        rintro e w' ⟨rfl, t, b⟩
        exact ⟨rfl, bl, t, b⟩
      · refine (tag_ok B T M bl L o.who w p h (hi.fine p (get_mem hg).1) hg hx hok).mono ?_
        rintro e w' ⟨rfl, t, b⟩
        exact ⟨rfl, bl, t, b⟩
    · exact absurd hc e2
  · rw [act_no hc (by rw [hk]; rfl)]
    refine (tag_no B T M bl L o.who w h hid hc).mono ?_
    rintro e w' ⟨rfl, rfl⟩
    exact ⟨rfl, bl, h, Bel.refl _ _⟩
theorem change_t (h : TabAt w B T M bl L) (hG : Good tot L) (hk : o.kind = 4) (hid : o.who.size ≤ maxLen) (vS vI : Value) (hS : IntsAt w vS o.S) (hI : IntsAt w vI o.I) (nS : o.S.length ≤ 17592186043904) (nI : o.I.length ≤ 17592186043904) :
    Calls Tryz.prog 30 #[ptr T, .string o.who, .agg #[vS, vI]] w fun e w' => e = .returned (.int .i64 (act o L).1.e) ∧ ActP o L w B T M w' := by
  obtain ⟨th, hi⟩ := hG.inv
  unfold ActP
  by_cases hc : ofCode L o.who = 0
  · rcases of_cases bl L o.who with ⟨p, hg, hx, e1, e2⟩ | ⟨e1, e2, e3⟩
    · have ha := act_live hg hx
      unfold actLive at ha
      rw [if_neg (by omega), if_neg (by omega), if_neg (by omega), if_neg (by omega), if_pos hk] at ha
      rw [ha]
      unfold changeA
      cases hs : (setL o.S && setL o.I)
      · rw [if_pos rfl]
        refine (change_arg B T M bl L o.who vS vI o.S o.I w p h hid hg hx hS hI nS nI hs).mono ?_
        rintro e w' ⟨rfl, t, b⟩
        exact ⟨rfl, bl, t, b⟩
      rw [if_neg (by simp)]
      cases hm : mayChange p o.S o.I
      · refine (change_cap B T M bl L o.who vS vI o.S o.I w p h hi.fine hid hg hx hS hI nS nI hs hm).mono ?_
        rintro e w' ⟨rfl, t, b⟩
        exact ⟨rfl, bl, t, b⟩
      · refine (change_ok B T M bl L o.who vS vI o.S o.I w p h hi.fine hid hg hx hS hI nS nI hs hm).mono ?_
        rintro e w' ⟨rfl, t, b⟩
        exact ⟨rfl, bl, t, b⟩
    · exact absurd hc e2
  · rw [act_no hc (by rw [hk]; rfl)]
    refine (change_no B T M bl L o.who vS vI w h hid hc).mono ?_
    rintro e w' ⟨rfl, t, b⟩
    exact ⟨rfl, bl, t, b⟩
theorem drop_t (h : TabAt w B T M bl L) (hG : Good tot L) (hk : o.kind = 5) (hid : o.who.size ≤ maxLen) (vP vM : Value) (hP : IntsAt w vP o.P) (hM : IntsAt w vM o.M) (nP : o.P.length ≤ 17592186043904) (nM : o.M.length ≤ 17592186043904) :
    Calls Tryz.prog 31 #[ptr T, .string o.who, .agg #[vP, vM]] w fun e w' => e = .returned (.int .i64 (act o L).1.e) ∧ ActP o L w B T M w' := by
  obtain ⟨th, hi⟩ := hG.inv
  unfold ActP
  by_cases hc : ofCode L o.who = 0
  · rcases of_cases bl L o.who with ⟨p, hg, hx, e1, e2⟩ | ⟨e1, e2, e3⟩
    · have ha := act_live hg hx
      unfold actLive at ha
      rw [if_neg (by omega), if_neg (by omega), if_neg (by omega), if_neg (by omega), if_neg (by omega), if_pos hk] at ha
      rw [ha]
      unfold dropA
      cases hs : (setL o.P && setL o.M)
      · rw [if_pos rfl]
        refine (drop_arg B T M bl L o.who vP vM o.P o.M w p h hid hg hx hP hM nP nM hs).mono ?_
        rintro e w' ⟨rfl, t, b⟩
        exact ⟨rfl, bl, t, b⟩
      rw [if_neg (by simp)]
      refine (drop_ok B T M bl L o.who vP vM o.P o.M w p h (hi.fine p (get_mem hg).1) hid hg hx hP hM nP nM hs).mono ?_
      rintro e w' ⟨rfl, t, b⟩
      exact ⟨rfl, bl, t, b⟩
    · exact absurd hc e2
  · rw [act_no hc (by rw [hk]; rfl)]
    refine (drop_no B T M bl L o.who vP vM w h hid hc).mono ?_
    rintro e w' ⟨rfl, t, b⟩
    exact ⟨rfl, bl, t, b⟩
theorem grant_t (h : TabAt w B T M bl L) (hG : Good tot L) (hk : o.kind = 6) (hid : o.who.size ≤ maxLen) (hto : o.to.size ≤ maxLen) (vP vM : Value) (hP : IntsAt w vP o.P) (hM : IntsAt w vM o.M) (nP : o.P.length ≤ 17592186043904) (nM : o.M.length ≤ 17592186043904) :
    Calls Tryz.prog 32 #[ptr T, .string o.who, .string o.to, .agg #[vP, vM]] w fun e w' => e = .returned (.int .i64 (act o L).1.e) ∧ ActP o L w B T M w' := by
  obtain ⟨th, hi⟩ := hG.inv
  unfold ActP
  by_cases hc : ofCode L o.who = 0
  · rcases of_cases bl L o.who with ⟨p, hg, hx, e1, e2⟩ | ⟨e1, e2, e3⟩
    · have ha := act_live hg hx
      unfold actLive at ha
      rw [if_neg (by omega), if_neg (by omega), if_neg (by omega), if_neg (by omega), if_neg (by omega), if_neg (by omega), if_pos hk] at ha
      rw [ha]
      refine (grant_act B T M bl L o.who o.to vP vM o.P o.M w p h hid hto hg hx hi.fine hP hM nP nM).mono ?_
      rintro e w' ⟨rfl, t, b⟩
      exact ⟨rfl, bl, t, b⟩
    · exact absurd hc e2
  · rw [act_no hc (by rw [hk]; rfl)]
    refine (grant_no B T M bl L o.who o.to vP vM w h hid hc).mono ?_
    rintro e w' ⟨rfl, t, b⟩
    exact ⟨rfl, bl, t, b⟩
theorem give_t (h : TabAt w B T M bl L) (hG : Good tot L) (hk : o.kind = 7) (hid : o.who.size ≤ maxLen) (vP vM : Value) (hP : IntsAt w vP o.P) (hM : IntsAt w vM o.M) (nP : o.P.length ≤ 17592186043904) (nM : o.M.length ≤ 17592186043904) :
    Calls Tryz.prog 33 #[ptr T, .string o.who, .agg #[vP, vM]] w fun e w' => e = .returned (.int .i64 (act o L).1.e) ∧ ActP o L w B T M w' := by
  obtain ⟨th, hi⟩ := hG.inv
  unfold ActP
  by_cases hc : ofCode L o.who = 0
  · rcases of_cases bl L o.who with ⟨p, hg, hx, e1, e2⟩ | ⟨e1, e2, e3⟩
    · have ha := act_live hg hx
      unfold actLive at ha
      rw [if_neg (by omega), if_neg (by omega), if_neg (by omega), if_neg (by omega), if_neg (by omega), if_neg (by omega), if_neg (by omega), if_pos hk] at ha
      rw [ha]
      unfold giveA
      cases hs : (setL o.P && setL o.M)
      · rw [if_pos rfl]
        refine (give_arg B T M bl L o.who vP vM o.P o.M w p h hid hg hx hP hM nP nM hs).mono ?_
        rintro e w' ⟨rfl, t, b⟩
        exact ⟨rfl, bl, t, b⟩
      rw [if_neg (by simp)]
      cases hj : (joinOk p.Plus o.P && joinOk p.Minus o.M)
      · refine (give_many B T M bl L o.who vP vM o.P o.M w p h (hi.fine p (get_mem hg).1) hid hg hx hP hM nP nM hs hj).mono ?_
        rintro e w' ⟨rfl, t, b⟩
        exact ⟨rfl, bl, t, b⟩
      · refine (give_ok B T M bl L o.who vP vM o.P o.M w p h (hi.fine p (get_mem hg).1) hid hg hx hP hM nP nM hs hj).mono ?_
        rintro e w' ⟨rfl, t, b⟩
        exact ⟨rfl, bl, t, b⟩
    · exact absurd hc e2
  · rw [act_no hc (by rw [hk]; rfl)]
    refine (give_no B T M bl L o.who vP vM w h hid hc).mono ?_
    rintro e w' ⟨rfl, t, b⟩
    exact ⟨rfl, bl, t, b⟩
theorem signal_t (h : TabAt w B T M bl L) (hG : Good tot L) (hk : o.kind = 8) (hid : o.who.size ≤ maxLen) (hto : o.to.size ≤ maxLen) :
    Calls Tryz.prog 34 #[ptr T, .string o.who, .string o.to, .int .i64 o.a] w fun e w' => e = .returned (.int .i64 (act o L).1.e) ∧ ActP o L w B T M w' := by
  obtain ⟨th, hi⟩ := hG.inv
  unfold ActP
  by_cases hc : ofCode L o.who = 0
  · rcases of_cases bl L o.who with ⟨p, hg, hx, e1, e2⟩ | ⟨e1, e2, e3⟩
    · have ha := act_live hg hx
      unfold actLive at ha
      rw [if_neg (by omega), if_neg (by omega), if_neg (by omega), if_neg (by omega), if_neg (by omega), if_neg (by omega), if_neg (by omega), if_neg (by omega), if_pos hk] at ha
      rw [ha]
      refine (signal_act (tot := tot) B T M bl L o.who o.to o.a w p h hid hto hg hx hi.fine hG.pend).mono ?_
      rintro e w' ⟨rfl, t, b⟩
      exact ⟨rfl, bl, t, b⟩
    · exact absurd hc e2
  · rw [act_no hc (by rw [hk]; rfl)]
    refine (signal_no B T M bl L o.who o.to o.a w h hid hc).mono ?_
    rintro e w' ⟨rfl, t, b⟩
    exact ⟨rfl, bl, t, b⟩
theorem mask_t (h : TabAt w B T M bl L) (hG : Good tot L) (hk : o.kind = 9) (hid : o.who.size ≤ maxLen) :
    Calls Tryz.prog 35 #[ptr T, .string o.who, .int .i64 o.a] w fun e w' => e = .returned (.tuple #[.int .i64 (act o L).1.n, .int .i64 (act o L).1.e]) ∧ ActP o L w B T M w' := by
  unfold ActP
  refine (mask_any B T M bl L o.who o.a w h hid).mono ?_
  rintro e w' ⟨rfl, t, b⟩
  by_cases hc : ofCode L o.who = 0
  · rcases of_cases bl L o.who with ⟨p, hg, hx, e1, e2⟩ | ⟨e1, e2, e3⟩
    · have ha := act_live hg hx
      unfold actLive at ha
      rw [if_neg (by omega), if_neg (by omega), if_neg (by omega), if_neg (by omega), if_neg (by omega), if_neg (by omega), if_neg (by omega), if_neg (by omega), if_neg (by omega), if_pos hk] at ha
      have er : maskRes L o.who = p.mask := by unfold maskRes; rw [hg]; simp [hx]
      have et : maskT L o.who o.a = updP { p with mask := o.a } L := by unfold maskT; rw [hg]; simp [hx]
      rw [er, hc, ha]
      rw [et] at t
      exact ⟨rfl, bl, t, b⟩
    · exact absurd hc e2
  · rw [act_no hc (by rw [hk]; rfl)]
    have er : maskRes L o.who = 0 := by
      unfold maskRes
      unfold ofCode at hc
      cases hg : get L o.who with
      | none => rfl
      | some p => rw [hg] at hc; simp only at hc ⊢; cases hx : p.exited <;> rw [hx] at hc <;> simp_all
    have et : maskT L o.who o.a = L := by
      unfold maskT
      unfold ofCode at hc
      cases hg : get L o.who with
      | none => rfl
      | some p => rw [hg] at hc; simp only at hc ⊢; cases hx : p.exited <;> rw [hx] at hc <;> simp_all
    rw [er]
    rw [et] at t
    exact ⟨rfl, bl, t, b⟩
theorem pend_t (h : TabAt w B T M bl L) (hG : Good tot L) (hk : isAct o.kind = false) (hid : o.who.size ≤ maxLen) (hT : _root_.Go.Proofs.TabAt 1 Lib.deBruijn64tab w) (h1 : 1 < w.heap.size) :
    Calls Tryz.prog 36 #[ptr T, .string o.who] w fun e w' => (e = .returned (.tuple #[.int .i64 (act o L).1.n, .bool (decide ((act o L).1.s = yesB))]) ∧ (act o L).1.e = 0 ∧ ((act o L).1.s = yesB ∨ (act o L).1.s = emp)) ∧ ActP o L w B T M w' := by
  obtain ⟨th, hi⟩ := hG.inv
  unfold ActP
  have hne : ∀ k : Int, 0 ≤ k → k ≤ 9 → o.kind ≠ k := fun k k0 k1 e => by
    unfold isAct at hk
    simp only [Bool.and_eq_false_iff, decide_eq_false_iff_not] at hk
    omega
  have hye : ¬ emp = yesB := by decide
  by_cases hc : ofCode L o.who = 0
  · rcases of_cases bl L o.who with ⟨p, hg, hx, e1, e2⟩ | ⟨e1, e2, e3⟩
    · have ha := act_live hg hx
      unfold actLive at ha
      rw [if_neg (hne _ (by decide) (by decide)), if_neg (hne _ (by decide) (by decide)), if_neg (hne _ (by decide) (by decide)), if_neg (hne _ (by decide) (by decide)), if_neg (hne _ (by decide) (by decide)), if_neg (hne _ (by decide) (by decide)), if_neg (hne _ (by decide) (by decide)), if_neg (hne _ (by decide) (by decide)), if_neg (hne _ (by decide) (by decide)), if_neg (hne _ (by decide) (by decide))] at ha
      rw [ha]
      have hp := hG.pend p (get_mem hg).1
      have hlt := takeN_le p.pending.toNat p.mask (by omega)
      unfold pendA
      cases hf : leastOf p with
      | none =>
        unfold leastOf at hf
        have hz := no_bits (n := takeN p.pending.toNat p.mask) (by omega) (fun k hk => by
          have := List.find?_eq_none.1 hf k (by simpa using hk)
          simpa using this)
        refine (pending_none B T M bl L o.who w p h hid hg hx hp.1 hp.2 hz).mono ?_
        rintro e w' ⟨rfl, t, b⟩
        exact ⟨⟨by simp only [errT, hye, decide_false], rfl, .inr rfl⟩, bl, t, b⟩
      | some s =>
        unfold leastOf at hf
        have hs := List.find?_some hf
        have hl : ∀ k, k < s → (takeN p.pending.toNat p.mask).testBit k = false := fun k hk => by
          obtain ⟨_, xs, ys, hab, hno⟩ := List.find?_eq_some_iff_append.1 hf
          have hmem : k ∈ xs := by
            have hlen : xs.length < 16 := by
              have := congrArg List.length hab
              simp at this
              omega
            have hsa : s = xs.length := by
              have h3 : (List.range 16)[xs.length]? = some s := by rw [hab]; simp
              rw [List.getElem?_range hlen] at h3
              exact (Option.some.inj h3).symm
            have h4 : (List.range 16)[k]? = some k := List.getElem?_range (by omega)
            rw [hab, List.getElem?_append_left (by omega)] at h4
            exact List.mem_of_getElem? h4
          have := hno k hmem
          simpa using this
        refine (pending_some B T M bl L o.who w p h hid hg hx hp.1 hp.2 s hs hl hT h1).mono ?_
        rintro e w' ⟨rfl, t, b⟩
        exact ⟨⟨by simp only [decide_true], rfl, .inl rfl⟩, bl, t, b⟩
    · exact absurd hc e2
  · have ha : act o L = (errT 0, L) := by
      unfold ofCode at hc
      unfold act
      cases hg : get L o.who with
      | none => simp [hk]
      | some p =>
        rw [hg] at hc
        simp only at hc ⊢
        cases hx : p.exited
        · rw [hx] at hc; simp at hc
        · simp [hk]
    rw [ha]
    refine (pending_no B T M bl L o w h hid hc).mono ?_
    rintro e w' ⟨rfl, rfl⟩
    exact ⟨⟨by simp only [errT, hye, decide_false], rfl, .inr rfl⟩, bl, h, Bel.refl _ _⟩
end
end Go.Proofs.YtmphnoabkmoafaaGreatDoor
