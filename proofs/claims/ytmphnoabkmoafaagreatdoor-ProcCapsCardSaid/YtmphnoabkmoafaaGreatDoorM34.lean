/- A look-up by a name, behind each turn of the list of processes; in plain Lean. What a table keeps to, whatever call is made; in plain Lean. -/
import Derived.Test.YtmphnoabkmoafaaGreatDoorM30
namespace Go.Proofs.YtmphnoabkmoafaaGreatDoor
open Go.RowKit Go.Maps
set_option linter.unusedVariables false
variable {uu0 : Unit} [Base uu0]
section
variable {L : List PR} {id : ByteArray}
theorem get_none {id : ByteArray} : get L id = none ↔ ∀ q ∈ L, q.id ≠ id := by
  unfold get
  rw [List.find?_eq_none]
  simp
theorem get_map (g : PR → PR) (hg : ∀ q ∈ L, (g q).id = q.id) : get (L.map g) id = (get L id).map g := by
  induction L with
  | nil => rfl
  | cons x r ih =>
    have ih := ih (fun q hq => hg q (by simp [hq]))
    have hx := hg x (by simp)
    unfold get at ih ⊢
    rw [List.map_cons, List.find?_cons, List.find?_cons, hx]
    by_cases h : x.id = id
    · simp [h]
    · simp only [h, decide_false]; exact ih
theorem get_upd {p p' : PR} (hp : get L p'.id = some p) (id : ByteArray) : get (updP p' L) id = if id = p'.id then some p' else get L id := by
  unfold updP
  rw [get_map _ (fun q hq => by by_cases h : q.id = p'.id <;> simp [h])]
  by_cases h : id = p'.id
  · rw [h, hp, if_pos rfl]
    simp only [Option.map_some]
    rw [if_pos (get_mem hp).2]
  · rw [if_neg h]
    cases hg : get L id with
    | none => rfl
    | some q =>
      simp only [Option.map_some]
      rw [if_neg (by rw [(get_mem hg).2]; exact h)]
theorem get_move (f : PR → Bool) (id : ByteArray) : get (moveP f L) id = (get L id).map fun q => if f q then toOne q else q := by
  unfold moveP
  exact get_map _ (fun q hq => by by_cases h : f q = true <;> simp [h, toOne])
theorem get_del (c id : ByteArray) : get (delP c L) id = if id = c then none else get L id := by
  induction L with
  | nil => simp [delP, get]
  | cons x r ih =>
    unfold delP get at *
    rw [List.filter_cons, List.find?_cons]
    by_cases hx : x.id = c
    · simp only [hx, decide_true, Bool.not_true, Bool.false_eq_true, if_false]
      rw [ih]
      by_cases h : id = c
      · simp [h]
      · have : ¬ c = id := fun e => h e.symm
        simp [h, this]
    · simp only [hx, decide_false, Bool.not_false, if_true]
      rw [List.find?_cons]
      by_cases h2 : x.id = id
      · have : ¬ id = c := fun e => hx (h2.trans e)
        simp [h2, this]
      · simp only [h2, decide_false]
        exact ih
theorem get_put (p : PR) (id : ByteArray) (h : get L p.id = none) : get (putP p L) id = if id = p.id then some p else get L id := by
  induction L with
  | nil =>
    unfold get putP
    by_cases e : p.id = id
    · simp [e]
    · have : ¬ id = p.id := fun x => e x.symm
      simp [e, this]
  | cons x r ih =>
    have hx : x.id ≠ p.id := get_none.1 h x (by simp)
    have ih := ih (get_none.2 fun q hq => get_none.1 h q (by simp [hq]))
    unfold putP
    split
    · unfold get
      rw [List.find?_cons]
      by_cases e : p.id = id
      · simp [e]
      · have : ¬ id = p.id := fun x => e x.symm
        simp [e, this]
    · unfold get at ih ⊢
      rw [List.find?_cons, List.find?_cons]
      by_cases e : x.id = id
      · have : ¬ id = p.id := fun y => hx (e.trans y)
        simp [e, this]
      · simp only [e, decide_false]
        exact ih
theorem upd_self {p : PR} (hu : ∀ p ∈ L, ∀ q ∈ L, p.id = q.id → p = q) (hp : p ∈ L) : updP p L = L := by
  unfold updP
  conv => rhs; rw [← List.map_id L]
  apply List.map_congr_left
  intro q hq
  by_cases h : q.id = p.id
  · rw [if_pos h, hu q hq p hp h]; rfl
  · rw [if_neg h]; rfl
end
end Go.Proofs.YtmphnoabkmoafaaGreatDoor
namespace Go.Proofs.YtmphnoabkmoafaaGreatDoor
open Go.RowKit Go.Maps
set_option linter.unusedVariables false
variable {uu0 : Unit} [Base uu0]
/-- A table that may be: at most so many shares, fine processes, signals in their bounds. -/
structure Good (tot : Int) (L : List PR) : Prop where
  inv : ∃ th, Inv tot th L
  pend : ∀ p ∈ L, 0 ≤ p.pending ∧ p.pending < 65536
theorem length_joinL' (a b : List Int) : (joinL a b).length ≤ 16 := by
  unfold joinL normV
  split
  · split
    · rename_i h
      unfold setL at h
      simp only [Bool.and_eq_true, decide_eq_true_eq] at h
      exact h.2
    · simp
  · simp
theorem setL_len {l : List Int} (h : setL l = true) : l.length ≤ 16 := by
  unfold setL at h
  simp only [Bool.and_eq_true, decide_eq_true_eq] at h
  exact h.2
theorem less_len (a b : List Int) : (lessL a b).length ≤ a.length := List.length_filter_le _ _
section
variable {tot : Int} {th : List ByteArray} {L : List PR}
theorem Inv.upd (h : Inv tot th L) {p p' : PR} (hp : p ∈ L) (hid : p'.id = p.id) (hf : p'.forks = p.forks) (hs : p'.share = p.share) (hF : Fine p') : Inv tot th (updP p' L) := by
  have hu := h.uniq
  unfold updP
  have key : ∀ q ∈ L, q.id = p'.id → q = p := fun q hq e => hu q hq p hp (by rw [e, hid])
  refine h.map _ (fun q hq => ?_) ?_
  · by_cases e : q.id = p'.id
    · have := key q hq e
      subst this
      rw [if_pos e]
      exact ⟨hid, hf, hF⟩
    · rw [if_neg e]
      exact ⟨rfl, rfl, h.fine q hq⟩
  · rw [sum_map_share _ (fun q hq => ?_)]
    · exact h.sum
    · by_cases e : q.id = p'.id
      · have := key q hq e
        subst this
        rw [if_pos e]
        exact hs
      · rw [if_neg e]
theorem Inv.move (h : Inv tot th L) (f : PR → Bool) : Inv tot th (moveP f L) := by
  unfold moveP
  refine h.map _ (fun q hq => ?_) ?_
  · have hf := h.fine q hq
    by_cases e : f q = true
    · simp only [e, if_true]
      exact ⟨rfl, rfl, ⟨hf.lS, hf.lI, hf.lP, hf.lM, hf.f0, hf.f1, hf.t0, hf.t1, hf.s0, hf.s1, hf.id1, hf.idc⟩⟩
    · simp only [e]
      exact ⟨rfl, rfl, hf⟩
  · rw [sum_map_share _ (fun q hq => ?_)]
    · exact h.sum
    · by_cases e : f q = true
      · simp only [e, if_true]; rfl
      · simp only [e]; rfl
theorem pend_upd {p' : PR} (h : ∀ p ∈ L, 0 ≤ p.pending ∧ p.pending < 65536) (h' : 0 ≤ p'.pending ∧ p'.pending < 65536) : ∀ p ∈ updP p' L, 0 ≤ p.pending ∧ p.pending < 65536 := fun q hq => by
  obtain ⟨x, hx, rfl⟩ := List.mem_map.1 hq
  by_cases e : x.id = p'.id
  · rw [if_pos e]; exact h'
  · rw [if_neg e]; exact h x hx
theorem pend_move {f : PR → Bool} (h : ∀ p ∈ L, 0 ≤ p.pending ∧ p.pending < 65536) : ∀ p ∈ moveP f L, 0 ≤ p.pending ∧ p.pending < 65536 := fun q hq => by
  obtain ⟨x, hx, rfl⟩ := List.mem_map.1 hq
  by_cases e : f x = true
  · rw [if_pos e]; exact h x hx
  · rw [if_neg e]; exact h x hx
theorem Good.get (h : Good tot L) {id : ByteArray} {p : PR} (hg : get L id = some p) : Fine p ∧ 0 ≤ p.pending ∧ p.pending < 65536 := by
  obtain ⟨th, hi⟩ := h.inv
  exact ⟨hi.fine p (get_mem hg).1, h.pend p (get_mem hg).1⟩
/-- A process is turned; its name, its forks and its share are not. -/
theorem Good.upd (h : Good tot L) {p p' : PR} (hp : p ∈ L) (hid : p'.id = p.id) (hf : p'.forks = p.forks) (hs : p'.share = p.share) (hF : Fine p') (hP : 0 ≤ p'.pending ∧ p'.pending < 65536) : Good tot (updP p' L) := by
  obtain ⟨th, hi⟩ := h.inv
  exact ⟨⟨th, hi.upd hp hid hf hs hF⟩, pend_upd h.pend hP⟩
theorem Good.move (h : Good tot L) (f : PR → Bool) : Good tot (moveP f L) := by
  obtain ⟨th, hi⟩ := h.inv
  exact ⟨⟨th, hi.move f⟩, pend_move h.pend⟩
theorem or_small {a s : Nat} (ha : a < 65536) (hs : s ≤ 15) : a ||| 2 ^ s < 65536 := by
  have h2 : 2 ^ s < 2 ^ 16 := Nat.pow_lt_pow_right (by omega) (by omega)
  exact Nat.or_lt_two_pow (n := 16) ha h2
theorem Good.act (h : Good tot L) (o : OpP) : Good tot (_root_.Go.Proofs.YtmphnoabkmoafaaGreatDoor.act o L).2 := by
  obtain ⟨th, hi⟩ := h.inv
  have hu := hi.uniq
  unfold _root_.Go.Proofs.YtmphnoabkmoafaaGreatDoor.act
  cases hw : _root_.Go.Proofs.YtmphnoabkmoafaaGreatDoor.get L o.who with
  | none => exact h
  | some p =>
    have hp := (get_mem hw).1
    have hpid : o.who = p.id := (get_mem hw).2.symm
    have hF := hi.fine p hp
    have hP := h.pend p hp
    simp only
    by_cases hpx : p.exited = true
    · rw [if_pos hpx]; exact h
    rw [if_neg hpx]
    unfold actLive
    by_cases k0 : o.kind = 0
    · rw [if_pos k0]
      unfold forkA
      by_cases hc : forkC p o.who o.a = 0
      · rw [if_pos hc]
        unfold forkC at hc
        by_cases h1 : o.a < 0
        · rw [if_pos h1] at hc; omega
        rw [if_neg h1] at hc
        by_cases h2 : p.share ≤ o.a ∨ 9 ≤ p.forks ∨ 15 ≤ o.who.size
        · rw [if_pos h2] at hc; omega
        have h3 := hi.fork hp (sh := o.a) (by omega) (by omega) (by omega) (by rw [← hpid]; omega)
        show Good tot (forkT p o.who o.a L)
        unfold forkT
        rw [hpid]
        refine ⟨⟨_, h3⟩, fun q hq => ?_⟩
        rcases (mem_putP _).1 hq with rfl | hq
        · exact ⟨by show (0 : Int) ≤ 0; omega, by show (0 : Int) < 65536; omega⟩
        · exact pend_upd (p' := parentP p o.a) h.pend hP q (mem_delP.1 hq).1
      · rw [if_neg hc]; exact h
    rw [if_neg k0]
    by_cases k1 : o.kind = 1
    · rw [if_pos k1]
      unfold exitA
      split
      · exact h
      · exact ⟨⟨th, hi.exit hp o.a (childOf o.who)⟩, pend_move (pend_upd (p' := exitP p o.a) h.pend hP)⟩
    rw [if_neg k1]
    by_cases k2 : o.kind = 2
    · rw [if_pos k2]
      unfold waitA
      cases hf : waitFind L o.who p with
      | none => exact h
      | some c =>
        simp only
        have hc1 : c ∈ L := List.mem_of_find?_eq_some hf
        have hc2 : c.exited = true := by
          have := List.find?_some hf
          unfold takes at this
          simp only [Bool.and_eq_true] at this
          exact this.1.2
        have hne : p.id ≠ c.id := fun e => by
          have := hu p hp c hc1 e
          rw [this] at hpx
          exact hpx hc2
        exact ⟨⟨_, hi.wait hp hc1 hne⟩, fun q hq => pend_upd (p' := waitP p c) h.pend hP q (mem_delP.1 hq).1⟩
    rw [if_neg k2]
    by_cases k3 : o.kind = 3
    · rw [if_pos k3]
      unfold tagA
      by_cases hk : tagOk p = true
      · rw [if_pos hk]
        have ht : p.tags < 9 := by
          unfold tagOk at hk
          simp only [Bool.and_eq_true, decide_eq_true_eq] at hk
          exact hk.1.1
        have h1 := length_joinL' p.Plus [tagN p]
        have h2 := length_joinL' p.Minus [tagN p]
        have ht0 := hF.t0
        exact h.upd hp rfl rfl rfl ⟨hF.lS, hF.lI, by show (joinL p.Plus [tagN p]).length ≤ _; omega, by show (joinL p.Minus [tagN p]).length ≤ _; omega, hF.f0, hF.f1, by show 0 ≤ p.tags + 1; omega, by show p.tags + 1 ≤ 9; omega, hF.s0, hF.s1, hF.id1, hF.idc⟩ hP
      · rw [if_neg hk]; exact h
    rw [if_neg k3]
    by_cases k4 : o.kind = 4
    · rw [if_pos k4]
      unfold changeA
      by_cases hs : (setL o.S && setL o.I) = false
      · rw [if_pos hs]; exact h
      rw [if_neg hs]
      simp only [Bool.not_eq_false, Bool.and_eq_true] at hs
      have h1 := setL_len hs.1
      have h2 := setL_len hs.2
      split
      · exact Good.move (h.upd (p' := relP p o.S o.I) hp rfl rfl rfl ⟨by show o.S.length ≤ _; omega, by show o.I.length ≤ _; omega, hF.lP, hF.lM, hF.f0, hF.f1, hF.t0, hF.t1, hF.s0, hF.s1, hF.id1, hF.idc⟩ hP) _
      · exact h
    rw [if_neg k4]
    by_cases k5 : o.kind = 5
    · rw [if_pos k5]
      unfold dropA
      split
      · exact h
      have h1 := less_len p.Plus o.P
      have h2 := less_len p.Minus o.M
      have h3 := hF.lP
      have h4 := hF.lM
      exact h.upd hp rfl rfl rfl ⟨hF.lS, hF.lI, by show (lessL p.Plus o.P).length ≤ _; omega, by show (lessL p.Minus o.M).length ≤ _; omega, hF.f0, hF.f1, hF.t0, hF.t1, hF.s0, hF.s1, hF.id1, hF.idc⟩ hP
    rw [if_neg k5]
    have more : ∀ t ∈ L, Good tot (updP (moreP t o.P o.M) L) := fun t ht => by
      have hF := hi.fine t ht
      have h1 := length_joinL' t.Plus o.P
      have h2 := length_joinL' t.Minus o.M
      exact h.upd ht rfl rfl rfl ⟨hF.lS, hF.lI, by show (joinL t.Plus o.P).length ≤ _; omega, by show (joinL t.Minus o.M).length ≤ _; omega, hF.f0, hF.f1, hF.t0, hF.t1, hF.s0, hF.s1, hF.id1, hF.idc⟩ (h.pend t ht)
    by_cases k6 : o.kind = 6
    · rw [if_pos k6]
      unfold grantA
      split
      · exact h
      split
      · exact h
      unfold reachA
      cases ht : _root_.Go.Proofs.YtmphnoabkmoafaaGreatDoor.get L o.to with
      | none => exact h
      | some t =>
        simp only
        split
        · exact h
        split
        · show Good tot (grantF o.P o.M L t)
          unfold grantF
          split
          · exact more t (get_mem ht).1
          · exact h
        · split <;> exact h
    rw [if_neg k6]
    by_cases k7 : o.kind = 7
    · rw [if_pos k7]
      unfold giveA
      split
      · exact h
      split
      · exact more p hp
      · exact h
    rw [if_neg k7]
    by_cases k8 : o.kind = 8
    · rw [if_pos k8]
      unfold signalA
      split
      · exact h
      rename_i hsig
      unfold reachA
      cases ht : _root_.Go.Proofs.YtmphnoabkmoafaaGreatDoor.get L o.to with
      | none => exact h
      | some t =>
        simp only
        have htm := (get_mem ht).1
        have hFt := hi.fine t htm
        have hPt := h.pend t htm
        split
        · exact h
        split
        · refine h.upd htm rfl rfl rfl ⟨hFt.lS, hFt.lI, hFt.lP, hFt.lM, hFt.f0, hFt.f1, hFt.t0, hFt.t1, hFt.s0, hFt.s1, hFt.id1, hFt.idc⟩ ?_
          have := or_small (a := t.pending.toNat) (s := o.a.toNat) (by omega) (by omega)
          show 0 ≤ ((t.pending.toNat ||| 2 ^ o.a.toNat : Nat) : Int) ∧ ((t.pending.toNat ||| 2 ^ o.a.toNat : Nat) : Int) < 65536
          omega
        · split <;> exact h
    rw [if_neg k8]
    by_cases k9 : o.kind = 9
    · rw [if_pos k9]
      exact h.upd hp rfl rfl rfl ⟨hF.lS, hF.lI, hF.lP, hF.lM, hF.f0, hF.f1, hF.t0, hF.t1, hF.s0, hF.s1, hF.id1, hF.idc⟩ hP
    rw [if_neg k9]
    unfold pendA
    cases leastOf p with
    | none => exact h
    | some s =>
      refine h.upd hp rfl rfl rfl ⟨hF.lS, hF.lI, hF.lP, hF.lM, hF.f0, hF.f1, hF.t0, hF.t1, hF.s0, hF.s1, hF.id1, hF.idc⟩ ?_
      have := clearN_le p.pending.toNat s (by omega)
      show 0 ≤ (clearN p.pending.toNat s : Int) ∧ (clearN p.pending.toNat s : Int) < 65536
      omega
end
end Go.Proofs.YtmphnoabkmoafaaGreatDoor
