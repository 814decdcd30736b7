/- ProcCaps in plain words: behind a call, whoever lived has no capability but those that are accounted for. -/
import Derived.Test.YtmphnoabkmoafaaGreatDoorM34
namespace Go.Proofs.YtmphnoabkmoafaaGreatDoor
open Go.RowKit Go.Maps
set_option linter.unusedVariables false
variable {uu0 : Unit} [Base uu0]
abbrev CP := List Int × List Int
def capsP (p : PR) : CP := (p.Plus, p.Minus)
def capsOf (L : List PR) (id : ByteArray) : CP := match get L id with | none => ([], []) | some p => capsP p
def moreC (x : CP) (P M : List Int) : Option CP := if (joinOk x.1 P && joinOk x.2 M) then some (joinL x.1 P, joinL x.2 M) else none
def within (x y : CP) : Bool := subL x.1 y.1 && subL x.2 y.2
def mayA (o : OpP) (r : Tl) (id : ByteArray) (was : CP) : CP := if id = o.who ∧ o.kind = 3 ∧ r.e = 0 then (moreC was [r.n] [r.n]).getD ([], []) else was
def mayB (o : OpP) (id : ByteArray) (own m : CP) : CP := if id = o.to ∧ o.kind = 6 ∧ within (o.P, o.M) own = true then (moreC m o.P o.M).getD m else m
theorem within_refl (x : CP) : within x x = true := by unfold within; rw [subL_refl, subL_refl]; rfl
theorem within_more {x : CP} {P M : List Int} : within x ((moreC x P M).getD x) = true := by
  unfold moreC
  by_cases h : (joinOk x.1 P && joinOk x.2 M) = true
  · rw [if_pos h]
    exact within_left h
  · rw [if_neg h]
    exact within_refl x
theorem within_mayB (o : OpP) (id : ByteArray) (own m : CP) : within m (mayB o id own m) = true := by
  unfold mayB
  split
  · exact within_more
  · exact within_refl m
theorem within_trans {x y z : CP} (h1 : within x y = true) (h2 : within y z = true) : within x z = true := by
  unfold within at *
  rw [Bool.and_eq_true] at *
  exact ⟨subL_trans h1.1 h2.1, subL_trans h1.2 h2.2⟩
section
variable {L : List PR} {id : ByteArray}
theorem caps_some {p : PR} (h : get L id = some p) : capsOf L id = capsP p := by unfold capsOf; rw [h]
theorem caps_move (f : PR → Bool) (id : ByteArray) : capsOf (moveP f L) id = capsOf L id := by
  unfold capsOf
  rw [get_move]
  cases get L id with
  | none => rfl
  | some q =>
    simp only [Option.map_some]
    by_cases h : f q = true
    · simp only [h, if_true]; rfl
    · simp only [h]; rfl
theorem caps_upd {p p' : PR} (hp : get L p'.id = some p) (h : capsP p' = capsP p) (id : ByteArray) : capsOf (updP p' L) id = capsOf L id := by
  unfold capsOf
  rw [get_upd hp]
  by_cases e : id = p'.id
  · rw [if_pos e, e, hp]; exact h
  · rw [if_neg e]
theorem caps_upd_other {p p' : PR} (hp : get L p'.id = some p) (h : id ≠ p'.id) : capsOf (updP p' L) id = capsOf L id := by
  unfold capsOf
  rw [get_upd hp, if_neg h]
theorem caps_upd_same {p p' : PR} (hp : get L p'.id = some p) : capsOf (updP p' L) p'.id = capsP p' := by
  unfold capsOf
  rw [get_upd hp, if_pos rfl]
end
/-- One call's new capabilities are accounted for. -/
theorem caps_law {tot : Int} {th : List ByteArray} {L : List PR} (h : Inv tot th L) (o : OpP) (ho : o.kind ≠ 7) {id : ByteArray} {q : PR} (hq : get L id = some q) (hx : q.exited = false) :
    within (capsOf (act o L).2 id) (mayB o id (capsOf L o.who) (mayA o (act o L).1 id (capsOf L id))) = true := by
  have hu := h.uniq
  have hid : id = q.id := (get_mem hq).2.symm
  -- where the capabilities are those that were, and no tag was made
  have keep : ∀ r : Tl, ∀ L' : List PR, (o.kind = 3 → r.e ≠ 0) → capsOf L' id = capsOf L id → within (capsOf L' id) (mayB o id (capsOf L o.who) (mayA o r id (capsOf L id))) = true := fun r L' hk hc => by
    have e : mayA o r id (capsOf L id) = capsOf L id := by
      unfold mayA
      rw [if_neg (fun hh => hk hh.2.1 hh.2.2)]
    rw [e, hc]
    exact within_mayB _ _ _ _
  unfold act
  cases hw : get L o.who with
  | none =>
    simp only
    exact keep _ _ (fun hk => by rw [hk]; decide) rfl
  | some p =>
    have hpid : o.who = p.id := (get_mem hw).2.symm
    have hwp : get L p.id = some p := by rw [← hpid]; exact hw
    simp only
    by_cases hpx : p.exited = true
    · rw [if_pos hpx]
      exact keep _ _ (fun hk => by rw [hk]; show (50 : Int) ≠ 0; decide) rfl
    rw [if_neg hpx]
    unfold actLive
    by_cases k0 : o.kind = 0
    · rw [if_pos k0]
      refine keep _ _ (fun hk => by omega) ?_
      unfold forkA
      by_cases hc : forkC p o.who o.a = 0
      · rw [if_pos hc]
        unfold forkT
        have hf9 : p.forks < 9 := by
          unfold forkC at hc
          by_cases h1 : o.a < 0
          · rw [if_pos h1] at hc; omega
          · rw [if_neg h1] at hc
            by_cases h2 : p.share ≤ o.a ∨ 9 ≤ p.forks ∨ 15 ≤ o.who.size
            · rw [if_pos h2] at hc; omega
            · omega
        have hfr := h.fresh (get_mem hw).1 hf9
        rw [hpid]
        have hne : id ≠ childId p.id (p.forks + 1) := by rw [hid]; exact hfr q (get_mem hq).1
        have g1 : capsOf (updP (parentP p o.a) L) id = capsOf L id := caps_upd (p := p) (p' := parentP p o.a) hwp rfl id
        rw [← g1]
        unfold capsOf
        rw [get_put _ _ (by rw [get_del]; exact if_pos rfl), if_neg (show ¬ id = (child p o.a).id from hne), get_del, if_neg hne]
      · rw [if_neg hc]
    rw [if_neg k0]
    by_cases k1 : o.kind = 1
    · rw [if_pos k1]
      refine keep _ _ (fun hk => by omega) ?_
      unfold exitA
      split
      · rfl
      · rw [caps_move]
        exact caps_upd (p := p) (p' := exitP p o.a) hwp rfl id
    rw [if_neg k1]
    by_cases k2 : o.kind = 2
    · rw [if_pos k2]
      refine keep _ _ (fun hk => by omega) ?_
      unfold waitA
      cases hf : waitFind L o.who p with
      | none => rfl
      | some c =>
        simp only
        have hc1 : c ∈ L := List.mem_of_find?_eq_some hf
        have hc2 : c.exited = true := by
          have := List.find?_some hf
          unfold takes at this
          simp only [Bool.and_eq_true] at this
          exact this.1.2
        have hne : id ≠ c.id := fun e => by
          have := hu q (get_mem hq).1 c hc1 (by rw [← hid, e])
          rw [this, hc2] at hx
          cases hx
        have g1 : capsOf (updP (waitP p c) L) id = capsOf L id := caps_upd (p := p) (p' := waitP p c) hwp rfl id
        rw [← g1]
        unfold capsOf
        rw [get_del, if_neg hne]
    rw [if_neg k2]
    by_cases k3 : o.kind = 3
    · rw [if_pos k3]
      unfold tagA
      by_cases hk : tagOk p = true
      · rw [if_pos hk]
        simp only
        by_cases e : id = p.id
        · have hqp : q = p := by rw [e, hwp] at hq; exact (Option.some.inj hq).symm
          have e1 : capsOf (updP (tagP p) L) id = capsP (tagP p) := by rw [e]; exact caps_upd_same (p := p) (p' := tagP p) hwp
          have e2 : mayA o ⟨tagN p, emp, 0⟩ id (capsOf L id) = capsP (tagP p) := by
            unfold mayA
            rw [if_pos ⟨by rw [hpid]; exact e, k3, rfl⟩, caps_some hq, hqp]
            unfold moreC
            have : (joinOk (capsP p).1 [tagN p] && joinOk (capsP p).2 [tagN p]) = true := by
              unfold tagOk at hk
              simp only [Bool.and_eq_true] at hk
              simp only [capsP, hk.1.2, hk.2, Bool.and_self]
            rw [if_pos this]
            rfl
          rw [e1, e2]
          exact within_mayB _ _ _ _
        · have e1 : capsOf (updP (tagP p) L) id = capsOf L id := caps_upd_other (p := p) (p' := tagP p) hwp e
          have e2 : mayA o ⟨tagN p, emp, 0⟩ id (capsOf L id) = capsOf L id := by
            unfold mayA
            rw [if_neg (fun hh => e (by rw [hh.1, hpid]))]
          rw [e1, e2]
          exact within_mayB _ _ _ _
      · rw [if_neg hk]
        exact keep _ _ (fun _ => by show (65 : Int) ≠ 0; decide) rfl
    rw [if_neg k3]
    have keep2 : ∀ r : Tl, ∀ L' : List PR, within (capsOf L' id) (capsOf L id) = true → within (capsOf L' id) (mayB o id (capsOf L o.who) (mayA o r id (capsOf L id))) = true := fun r L' hc => by
      have e : mayA o r id (capsOf L id) = capsOf L id := by
        unfold mayA
        rw [if_neg (fun hh => k3 hh.2.1)]
      rw [e]
      exact within_trans hc (within_mayB _ _ _ _)
    by_cases k4 : o.kind = 4
    · rw [if_pos k4]
      refine keep _ _ (fun hk => absurd hk k3) ?_
      unfold changeA
      split
      · rfl
      · split
        · rw [caps_move]
          exact caps_upd (p := p) (p' := relP p o.S o.I) hwp rfl id
        · rfl
    rw [if_neg k4]
    by_cases k5 : o.kind = 5
    · rw [if_pos k5]
      refine keep2 _ _ ?_
      unfold dropA
      split
      · exact within_refl _
      · by_cases e : id = p.id
        · have hqp : q = p := by rw [e, hwp] at hq; exact (Option.some.inj hq).symm
          have e1 : capsOf (updP (lessP p o.P o.M) L) id = capsP (lessP p o.P o.M) := by rw [e]; exact caps_upd_same (p := p) (p' := lessP p o.P o.M) hwp
          rw [e1, caps_some hq, hqp]
          exact less_within _ _ _ _
        · rw [caps_upd_other (p := p) (p' := lessP p o.P o.M) hwp e]
          exact within_refl _
    rw [if_neg k5]
    by_cases k6 : o.kind = 6
    · rw [if_pos k6]
      unfold grantA
      split
      · exact keep2 _ _ (within_refl _)
      split
      · exact keep2 _ _ (within_refl _)
      rename_i hw2
      have hw3 : (subL o.P p.Plus && subL o.M p.Minus) = true := by simpa using hw2
      unfold reachA
      cases ht : get L o.to with
      | none => exact keep2 _ _ (within_refl _)
      | some t =>
        simp only
        split
        · exact keep2 _ _ (within_refl _)
        split
        · unfold grantF
          by_cases hj : (joinOk t.Plus o.P && joinOk t.Minus o.M) = true
          · rw [if_pos hj]
            have htt : get L t.id = some t := by rw [(get_mem ht).2]; exact ht
            by_cases e : id = t.id
            · have hqt : q = t := by rw [e, htt] at hq; exact (Option.some.inj hq).symm
              have e1 : capsOf (updP (moreP t o.P o.M) L) id = capsP (moreP t o.P o.M) := by rw [e]; exact caps_upd_same (p := t) (p' := moreP t o.P o.M) htt
              have e2 : ∀ r : Tl, mayA o r id (capsOf L id) = capsP t := fun r => by
                unfold mayA
                rw [if_neg (fun hh => k3 hh.2.1), caps_some hq, hqt]
              rw [e1, e2, caps_some hw]
              unfold mayB
              rw [if_pos ⟨by rw [e, (get_mem ht).2], k6, by unfold within capsP; exact hw3⟩]
              unfold moreC
              rw [if_pos (show (joinOk (capsP t).1 o.P && joinOk (capsP t).2 o.M) = true from hj)]
              exact within_refl _
            · exact keep2 _ _ (by rw [caps_upd_other (p := t) (p' := moreP t o.P o.M) htt e]; exact within_refl _)
          · rw [if_neg hj]
            exact keep2 _ _ (within_refl _)
        · split
          · exact keep2 _ _ (within_refl _)
          · exact keep2 _ _ (within_refl _)
    rw [if_neg k6, if_neg ho]
    by_cases k8 : o.kind = 8
    · rw [if_pos k8]
      refine keep _ _ (fun hk => absurd hk k3) ?_
      unfold signalA
      split
      · rfl
      unfold reachA
      cases ht : get L o.to with
      | none => rfl
      | some t =>
        simp only
        have htt : get L t.id = some t := by rw [(get_mem ht).2]; exact ht
        split
        · rfl
        split
        · exact caps_upd (p := t) (p' := sigP t o.a.toNat) htt rfl id
        · split <;> rfl
    rw [if_neg k8]
    by_cases k9 : o.kind = 9
    · rw [if_pos k9]
      exact keep _ _ (fun hk => absurd hk k3) (caps_upd (p := p) (p' := { p with mask := o.a }) hwp rfl id)
    rw [if_neg k9]
    refine keep _ _ (fun hk => absurd hk k3) ?_
    unfold pendA
    cases leastOf p with
    | none => rfl
    | some s => exact caps_upd (p := p) (p' := pendP p s) hwp rfl id
/-- A child's capabilities are its parent's. -/
theorem caps_fork {tot : Int} {th : List ByteArray} {L : List PR} (h : Inv tot th L) (o : OpP) (k0 : o.kind = 0) (he : (act o L).1.e = 0) : capsOf (act o L).2 (act o L).1.s = capsOf L o.who := by
  unfold act at he ⊢
  cases hw : get L o.who with
  | none => rw [hw] at he; simp only at he; rw [k0] at he; exact absurd he (by decide)
  | some p =>
    rw [hw] at he
    simp only at he ⊢
    by_cases hpx : p.exited = true
    · rw [if_pos hpx] at he; rw [k0] at he; exact absurd (show (50 : Int) = 0 from he) (by decide)
    rw [if_neg hpx] at he ⊢
    unfold actLive at he ⊢
    rw [if_pos k0] at he ⊢
    unfold forkA at he ⊢
    by_cases hc : forkC p o.who o.a = 0
    · rw [if_pos hc]
      unfold forkT
      simp only
      have hpid : o.who = p.id := (get_mem hw).2.symm
      rw [hpid]
      unfold capsOf
      rw [get_put _ _ (by rw [get_del]; exact if_pos rfl)]
      show (match (if childId p.id (p.forks + 1) = childId p.id (p.forks + 1) then some (child p o.a) else _) with | none => ([], []) | some p => capsP p) = _
      rw [if_pos rfl, ← hpid, hw]
      rfl
    · rw [if_neg hc] at he
      exact absurd he hc
end Go.Proofs.YtmphnoabkmoafaaGreatDoor
