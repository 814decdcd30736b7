/- valid: whether a text is a name. reach and Signal. -/
import Derived.Laws.RangeString
import Derived.Laws.RangeAny
import Derived.Test.YtmphnoabkmoafaaGreatDoorM10
import Derived.Test.YtmphnoabkmoafaaGreatDoorM16
namespace Go.Proofs.YtmphnoabkmoafaaGreatDoor
open Go.RowKit
set_option linter.unusedVariables false
variable {uu0 : Unit} [Base uu0]
/-- What is known behind k bytes: was the last one a dot? -/
def stV (s : ByteArray) : Nat → Option Bool
  | 0 => some true
  | k + 1 => match stV s k with
    | none => none
    | some dot => if h : k < s.size then (if (s[k]'h).toNat = 46 ∧ dot = false then some true else if 49 ≤ (s[k]'h).toNat ∧ (s[k]'h).toNat ≤ 57 ∧ dot = true then some false else none) else none
def validB (s : ByteArray) : Bool := match stV s s.size with
  | some dot => !dot && decide ((s.size + 1) / 2 ≤ 8 ∨ s.size = 9223372036854775807)
  | none => false
theorem stV_none {s : ByteArray} {k : Nat} (h : stV s k = none) : ∀ n, k ≤ n → stV s n = none := by
  intro n hn
  induction n with
  | zero => (obtain rfl : k = 0 := (by omega)); exact h
  | succ n ih =>
    by_cases hk : k = n + 1
    · rw [← hk]; exact h
    · have := ih (by omega)
      unfold stV
      rw [this]
set_option maxRecDepth 100000 in
set_option maxHeartbeats 1000000 in
theorem valid_any (s : ByteArray) (w : World) (hs : s.size ≤ maxLen) : Calls Tryz.prog 68 #[.string s] w fun e w' => e = .returned (.bool (validB s)) ∧ Below w.heap.size w w' := by
  obtain ⟨res, hres⟩ : ∃ r, r = validB s := ⟨_, rfl⟩
  rw [← hres]
  have HR := Lib.hid hres
  clear hres
  go_enter Tryz.func68, Tryz.ntmps68
  go_wp2
  go_loopw [3, 5] (fun d _ wr => ∃ pos dot, pos ≤ s.size ∧ d = .bool dot ∧ stV s pos = some dot ∧ wr = w.iter s pos) (fun _ _ wr => s.size - wr.iterPos w.heap.size)
  case atStart => exact ⟨0, true, by omega, rfl, rfl, rfl⟩
  case round =>
    obtain ⟨pos, dot, hpos, rfl, hst, rfl⟩ := hrel
    by_cases hlt : pos < s.size
    · have hstep : stV s (pos + 1) = if (s[pos]'hlt).toNat = 46 ∧ dot = false then some true else if 49 ≤ (s[pos]'hlt).toNat ∧ (s[pos]'hlt).toNat ≤ 57 ∧ dot = true then some false else none := by rw [stV, hst]; simp only [dif_pos hlt]
      have hbad : stV s (pos + 1) = none → res = false := fun h => by
        have := stV_none h s.size (by omega)
        rw [HR.out]; unfold validB; rw [this]
      by_cases hasc : (s[pos]'hlt).toNat < 128
      · have hn := fun ty => run_next_ascii (P := Tryz.prog) w s pos ty hlt hasc
        obtain ⟨c, hc⟩ : ∃ c : Nat, c = (s[pos]'hlt).toNat := ⟨_, rfl⟩
        rw [← hc] at hstep hasc
        simp only [← hc] at hn
        clear hc
        cases dot
        · by_cases h46 : c = 46
          · subst h46
            simp only [and_self, if_true] at hstep
            clear hbad
            go_wp2
            go_roundw
            case rel => exact ⟨pos + 1, true, by omega, rfl, hstep, rfl⟩
            case measure => rw [World.iterPos_iter, World.iterPos_iter]; omega
          · have d1 : ((c : Int) == 46) = false := by simp; omega
            have hr : res = false := hbad (by rw [hstep]; simp [h46])
            clear hbad hstep
            subst hr
            by_cases h1 : 49 ≤ c
            · have d2 : decide ((c : Int) ≥ 49) = true := by simp; omega
              by_cases h2 : c ≤ 57
              · have d3 : decide ((c : Int) ≤ 57) = true := by simp; omega
                go_wp2
                go_ret
                exact ⟨rfl, (Below.refl _ _).alloc (Nat.le_refl _) _⟩
              · have d3 : decide ((c : Int) ≤ 57) = false := by simp; omega
                go_wp2
                go_ret
                exact ⟨rfl, (Below.refl _ _).alloc (Nat.le_refl _) _⟩
            · have d2 : decide ((c : Int) ≥ 49) = false := by simp; omega
              go_wp2
              go_ret
              exact ⟨rfl, (Below.refl _ _).alloc (Nat.le_refl _) _⟩
        · by_cases h1 : 49 ≤ c
          · have d2 : decide ((c : Int) ≥ 49) = true := by simp; omega
            have d1 : ((c : Int) == 46) = false := by simp; omega
            by_cases h2 : c ≤ 57
            · have d3 : decide ((c : Int) ≤ 57) = true := by simp; omega
              have hs2 : stV s (pos + 1) = some false := by rw [hstep]; simp [h1, h2]
              clear hbad hstep
              go_wp2
              go_roundw
              case rel => exact ⟨pos + 1, false, by omega, rfl, hs2, rfl⟩
              case measure => rw [World.iterPos_iter, World.iterPos_iter]; omega
            · have d3 : decide ((c : Int) ≤ 57) = false := by simp; omega
              have hr : res = false := hbad (by rw [hstep]; simp [h2])
              clear hbad hstep
              subst hr
              go_wp2
              go_ret
              exact ⟨rfl, (Below.refl _ _).alloc (Nat.le_refl _) _⟩
          · have d2 : decide ((c : Int) ≥ 49) = false := by simp; omega
            have hr : res = false := hbad (by rw [hstep]; simp [h1])
            clear hbad hstep
            subst hr
            by_cases h46 : c = 46
            · have d1 : ((c : Int) == 46) = true := by simp; omega
              go_wp2
              go_ret
              exact ⟨rfl, (Below.refl _ _).alloc (Nat.le_refl _) _⟩
            · have d1 : ((c : Int) == 46) = false := by simp; omega
              go_wp2
              go_ret
              exact ⟨rfl, (Below.refl _ _).alloc (Nat.le_refl _) _⟩
      · have hr : res = false := hbad (by rw [hstep, if_neg (by omega), if_neg (by omega)])
        clear hbad hstep
        subst hr
        have hn := fun ty => run_next_any (P := Tryz.prog) w s pos ty hlt
        have hdh := (decode_high s pos hlt (by omega)).1
        have hdl := decode_le s pos
        generalize (Utf8.decode s pos).1 = c at *
        generalize (Utf8.decode s pos).2 = k at *
        have d1 : ((c : Int) == 46) = false := by simp; omega
        have d2 : decide ((c : Int) ≥ 49) = true := by simp; omega
        have d3 : decide ((c : Int) ≤ 57) = false := by simp; omega
        go_wp2
        go_ret
        exact ⟨rfl, (Below.refl _ _).alloc (Nat.le_refl _) _⟩
    · have hn := fun ty => run_next_end (P := Tryz.prog) w s pos ty hlt
      obtain rfl : pos = s.size := by omega
      have hr : res = (!dot && decide ((s.size + 1) / 2 ≤ 8 ∨ s.size = 9223372036854775807)) := by rw [HR.out]; unfold validB; rw [hst]
      unfold maxLen at hs
      cases dot
      · by_cases hmx : s.size = 9223372036854775807
        · have hw1 : wrap64 ((s.size : Int) + 1) = -9223372036854775808 := by unfold wrap64; omega
          have hr2 : res = true := by rw [hr]; simp [hmx]
          clear hr HR hmx
          subst hr2
          go_wp2
          go_ret
          exact ⟨by first | rfl | (simp [hw1]; done) | (simp [hw1]; rfl), (Below.refl _ _).alloc (Nat.le_refl _) _⟩
        · by_cases h15 : (s.size + 1) / 2 ≤ 8
          · have d1 : decide (((s.size : Int) + 1) / 2 ≤ 8) = true := by simp; omega
            simp [h15] at hr
            subst hr
            go_wp2
            go_ret
            exact ⟨rfl, (Below.refl _ _).alloc (Nat.le_refl _) _⟩
          · have d1 : decide (((s.size : Int) + 1) / 2 ≤ 8) = false := by simp; omega
            simp [h15, hmx] at hr
            subst hr
            go_wp2
            go_ret
            exact ⟨rfl, (Below.refl _ _).alloc (Nat.le_refl _) _⟩
      · simp at hr
        subst hr
        go_wp2
        go_ret
        exact ⟨rfl, (Below.refl _ _).alloc (Nat.le_refl _) _⟩
end Go.Proofs.YtmphnoabkmoafaaGreatDoor
namespace Go.Proofs.YtmphnoabkmoafaaGreatDoor
open Go.RowKit Go.Maps
set_option linter.unusedVariables false
variable {uu0 : Unit} [Base uu0]
/-- Nobody lives by that name. -/
def noneLives (L : List PR) (to : ByteArray) : Bool := match get L to with | none => true | some q => q.exited
set_option maxRecDepth 100000 in
theorem reach_none (B T M : Nat) (bl : ByteArray → Nat) (L : List PR) (to : ByteArray) (v F : Value) (w : World) (h : TabAt w B T M bl L) (hid : to.size ≤ maxLen) (hn : noneLives L to = true) :
    Calls Tryz.prog 70 #[ptr T, v, .string to, F] w fun e w' => e = .returned (.int .i64 0) ∧ w' = w := by
  have hrun := h.lookup to hid
  have c0 := h.cellT
  unfold noneLives at hn
  unfold ptrOf at hrun
  cases hg : get L to with
  | none =>
    rw [hg] at hrun
    simp only at hrun
    unfold ptr
    clear hg hn h
    go_enter Tryz.func70, Tryz.ntmps70
    go_wp2
    go_ret
    exact ⟨rfl, rfl⟩
  | some q =>
    rw [hg] at hrun hn
    simp only at hrun hn
    obtain ⟨a, b, c, d, hp⟩ := h.procs q (get_mem hg).1
    have c8 : w.cell? ⟨bl q.id, 8, none⟩ = some (.bool q.exited) := hp.cell 8
    unfold ptr at hrun ⊢
    rw [hn] at c8
    clear hg hn h hp
    generalize bl q.id = g at *
    go_enter Tryz.func70, Tryz.ntmps70
    go_wp2
    go_ret
    exact ⟨rfl, rfl⟩
set_option maxRecDepth 100000 in
set_option maxHeartbeats 1000000 in
/-- A signal to one that is not there. -/
theorem signal_none (B T M : Nat) (bl : ByteArray → Nat) (L : List PR) (id to : ByteArray) (sig : Int) (w : World) (h : TabAt w B T M bl L) (hid : id.size ≤ maxLen) (hto : to.size ≤ maxLen) (h0 : ofCode L id = 0) (h1 : 1 ≤ sig) (h2 : sig ≤ 15) (hv : validB to = true) (hn : noneLives L to = true) :
    Calls Tryz.prog 34 #[ptr T, .string id, .string to, .int .i64 sig] w fun e w' => e = .returned (.int .i64 0) ∧ TabAt w' B T M bl L ∧ Bel B w w' := by
  obtain ⟨W, hW⟩ : ∃ W, W = w.alloc (.cells #[.int .i64 sig] 3) := ⟨_, rfl⟩
  have bW : Below w.heap.size w W := by rw [hW]; exact (Below.refl _ _).alloc (Nat.le_refl _) _
  have hBw : B ≤ w.heap.size := by have := h.lowT; have := h.ltT; omega
  have hTW := h.below bW
  have ho := of_any B T M bl L id W hTW hid
  rcases of_cases bl L id with ⟨p, hg, hx, e1, e2⟩ | ⟨e1, e2, e3⟩
  · rw [e1, e2] at ho
    have cs : ∀ W', Below W.heap.size W W' → W'.cell? ⟨w.heap.size, 0, none⟩ = some (.int .i64 sig) := fun W' k => by
      rw [k.cell (p := ⟨w.heap.size, 0, none⟩) (by rw [hW]; simp), hW, cell_of_row _ _ 0 _ 3 (0, 0) (heap_alloc_new w _)]
      rfl
    have cv := fun W' => valid_any to W' hto
    rw [hv] at cv
    have cr := fun W' v F (k : TabAt W' B T M bl L) => reach_none B T M bl L to v F W' k hto hn
    have cs0 := cs W (Below.refl _ _)
    have CS := Lib.hid cs
    have HT := Lib.hid hTW
    have HB := Lib.hid (bW.bel hBw)
    have HBW : Hid (B ≤ W.heap.size) := Nat.le_trans hBw bW.size
    clear h hTW bW hg e1 e2 cs
    have d1 : decide (sig < 1) = false := by simp; omega
    have d2 : decide (sig > 15) = false := by simp; omega
    unfold ptr at *
    generalize bl p.id = g at *
    go_enter Tryz.func34, Tryz.ntmps34
    go_upto_region 1 with (fail)
    rw [← hW]
    clear hW
    go_wp2_with (first
      | (go_at_call 23; refine ho.mono ?_; rintro e w1 ⟨rfl, rfl⟩)
      | (go_at_call 68; refine (cv _).mono ?_; rintro e w2 ⟨rfl, b2⟩; have cs1 := CS.out w2 b2; have HT2 := Lib.hid (HT.out.below b2))
      | (go_at_call 70; refine (cr _ _ _ HT2.out).mono ?_; rintro e w3 ⟨rfl, rfl⟩))
    go_ret
    exact ⟨rfl, HT2.out, HB.out.trans (b2.bel HBW.out)⟩
  · exact absurd h0 e2
end Go.Proofs.YtmphnoabkmoafaaGreatDoor
