/- told tells what act tells. -/
import Derived.Test.YtmphnoabkmoafaaGreatDoorM35
import Derived.Test.YtmphnoabkmoafaaGreatDoorM36
namespace Go.Proofs.YtmphnoabkmoafaaGreatDoor
open Go.RowKit Go.Maps
set_option linter.unusedVariables false
variable {uu0 : Unit} [Base uu0]
def QuietT (x : Tl × List PR) : Prop := x.1.n = 0 ∧ x.1.s = emp
theorem quiet_err (e : Int) (L : List PR) : QuietT (errT e, L) := ⟨rfl, rfl⟩
theorem act_quiet (o : OpP) (L : List PR) (hk : o.kind = 1 ∨ o.kind = 4 ∨ o.kind = 5 ∨ o.kind = 6 ∨ o.kind = 7 ∨ o.kind = 8) : QuietT (act o L) := by
  unfold act
  split
  · exact quiet_err _ _
  · split
    · exact quiet_err _ _
    · unfold actLive
      rcases hk with hk | hk | hk | hk | hk | hk
      · rw [if_neg (by omega), if_pos hk]; unfold exitA; repeat' split
        all_goals exact quiet_err _ _
      · rw [if_neg (by omega), if_neg (by omega), if_neg (by omega), if_neg (by omega), if_pos hk]; unfold changeA; repeat' split
        all_goals exact quiet_err _ _
      · rw [if_neg (by omega), if_neg (by omega), if_neg (by omega), if_neg (by omega), if_neg (by omega), if_pos hk]; unfold dropA; repeat' split
        all_goals exact quiet_err _ _
      · rw [if_neg (by omega), if_neg (by omega), if_neg (by omega), if_neg (by omega), if_neg (by omega), if_neg (by omega), if_pos hk]; unfold grantA reachA; repeat' split
        all_goals exact quiet_err _ _
      · rw [if_neg (by omega), if_neg (by omega), if_neg (by omega), if_neg (by omega), if_neg (by omega), if_neg (by omega), if_neg (by omega), if_pos hk]; unfold giveA; repeat' split
        all_goals exact quiet_err _ _
      · rw [if_neg (by omega), if_neg (by omega), if_neg (by omega), if_neg (by omega), if_neg (by omega), if_neg (by omega), if_neg (by omega), if_neg (by omega), if_pos hk]; unfold signalA reachA; repeat' split
        all_goals exact quiet_err _ _
theorem act_n0 (o : OpP) (L : List PR) (hk : o.kind = 0) : (act o L).1.n = 0 := by
  unfold act
  split
  · rfl
  · split
    · rfl
    · unfold actLive
      rw [if_pos hk]; unfold forkA; split <;> rfl
theorem act_s0 (o : OpP) (L : List PR) (hk : o.kind = 3 ∨ o.kind = 9) : (act o L).1.s = emp := by
  unfold act
  split
  · rfl
  · split
    · rfl
    · unfold actLive
      rcases hk with hk | hk
      · rw [if_neg (by omega), if_neg (by omega), if_neg (by omega), if_pos hk]; unfold tagA; split <;> rfl
      · rw [if_neg (by omega), if_neg (by omega), if_neg (by omega), if_neg (by omega), if_neg (by omega), if_neg (by omega), if_neg (by omega), if_neg (by omega), if_neg (by omega), if_pos hk]; rfl
/-- The value of an Op. -/
def opVal (o : OpP) (a1 a2 a3 a4 : Option Addr) (n1 n2 n3 n4 c1 c2 c3 c4 : Nat) : Array Value := #[.int .i64 o.kind, .int .i64 o.a, .string o.who, .string o.to, .slice a1 n1 c1, .slice a2 n2 c2, .slice a3 n3 c3, .slice a4 n4 c4]
theorem told_any {tot : Int} (B T M : Nat) (bl : ByteArray → Nat) (L : List PR) (o : OpP) (a1 a2 a3 a4 : Option Addr) (n1 n2 n3 n4 c1 c2 c3 c4 : Nat) (w : World) (h : TabAt w B T M bl L) (hG : Good tot L) (hid : o.who.size ≤ maxLen) (hto : o.to.size ≤ maxLen)
    (hS : IntsAt w (.slice a1 n1 c1) o.S) (hI : IntsAt w (.slice a2 n2 c2) o.I) (hP : IntsAt w (.slice a3 n3 c3) o.P) (hM : IntsAt w (.slice a4 n4 c4) o.M) (nS : o.S.length ≤ 17592186043904) (nI : o.I.length ≤ 17592186043904) (nP : o.P.length ≤ 17592186043904) (nM : o.M.length ≤ 17592186043904)
    (hT : _root_.Go.Proofs.TabAt 1 Lib.deBruijn64tab w) (h1 : 1 < w.heap.size) :
    Calls Tryz.prog 10 #[ptr T, .agg (opVal o a1 a2 a3 a4 n1 n2 n3 n4 c1 c2 c3 c4)] w fun e w' => e = .returned (.tuple #[.int .i64 (act o L).1.n, .string (act o L).1.s, .int .i64 (act o L).1.e]) ∧ ActP o L w B T M w' := by
  obtain ⟨W, hW⟩ : ∃ W, W = w.alloc (.cells (opVal o a1 a2 a3 a4 n1 n2 n3 n4 c1 c2 c3 c4) 36) := ⟨_, rfl⟩
  have bW : Below w.heap.size w W := by rw [hW]; exact (Below.refl _ _).alloc (Nat.le_refl _) _
  have hBw : B ≤ w.heap.size := by have := h.lowT; have := h.ltT; omega
  have hTW := h.below bW
  have iS := hS.below bW (Nat.le_refl _)
  have iI := hI.below bW (Nat.le_refl _)
  have iP := hP.below bW (Nat.le_refl _)
  have iM := hM.below bW (Nat.le_refl _)
  have hTT := tab_below hT bW h1
  have h1W : 1 < W.heap.size := Nat.lt_of_lt_of_le h1 bW.size
  have back : ∀ w', ActP o L W B T M w' → ActP o L w B T M w' := fun w' ⟨bl', t, b⟩ => ⟨bl', t, (bW.bel hBw).trans b⟩
  unfold opVal at hW ⊢
  by_cases hk : o.kind = 0
  · rw [act_n0 o L hk]
    exact told_0 T o.kind o.a (act o L).1.n (act o L).1.e true o.who o.to (act o L).1.s a1 a2 a3 a4 n1 n2 n3 n4 c1 c2 c3 c4 w (ActP o L w B T M) hk (by rw [← hW]; exact (fork_t B T M bl L o W hTW hG hk hid).mono fun e w' ⟨e1, e2⟩ => ⟨e1, back w' e2⟩)
  by_cases hk : o.kind = 1
  · obtain ⟨q1, q2⟩ := act_quiet o L (.inl hk)
    rw [q1, q2]
    exact told_1 T o.kind o.a (act o L).1.n (act o L).1.e true o.who o.to (act o L).1.s a1 a2 a3 a4 n1 n2 n3 n4 c1 c2 c3 c4 w (ActP o L w B T M) hk (by rw [← hW]; exact (exit_t B T M bl L o W hTW hG hk hid).mono fun e w' ⟨e1, e2⟩ => ⟨e1, back w' e2⟩)
  by_cases hk : o.kind = 2
  · skip
    exact told_2 T o.kind o.a (act o L).1.n (act o L).1.e true o.who o.to (act o L).1.s a1 a2 a3 a4 n1 n2 n3 n4 c1 c2 c3 c4 w (ActP o L w B T M) hk (by rw [← hW]; exact (wait_t B T M bl L o W hTW hG hk hid).mono fun e w' ⟨e1, e2⟩ => ⟨e1, back w' e2⟩)
  by_cases hk : o.kind = 3
  · rw [act_s0 o L (.inl hk)]
    exact told_3 T o.kind o.a (act o L).1.n (act o L).1.e true o.who o.to (act o L).1.s a1 a2 a3 a4 n1 n2 n3 n4 c1 c2 c3 c4 w (ActP o L w B T M) hk (by rw [← hW]; exact (tag_t B T M bl L o W hTW hG hk hid).mono fun e w' ⟨e1, e2⟩ => ⟨e1, back w' e2⟩)
  by_cases hk : o.kind = 4
  · obtain ⟨q1, q2⟩ := act_quiet o L (.inr (.inl hk))
    rw [q1, q2]
    exact told_4 T o.kind o.a (act o L).1.n (act o L).1.e true o.who o.to (act o L).1.s a1 a2 a3 a4 n1 n2 n3 n4 c1 c2 c3 c4 w (ActP o L w B T M) hk (by rw [← hW]; exact (change_t B T M bl L o W hTW hG hk hid _ _ iS iI nS nI).mono fun e w' ⟨e1, e2⟩ => ⟨e1, back w' e2⟩)
  by_cases hk : o.kind = 5
  · obtain ⟨q1, q2⟩ := act_quiet o L (.inr (.inr (.inl hk)))
    rw [q1, q2]
    exact told_5 T o.kind o.a (act o L).1.n (act o L).1.e true o.who o.to (act o L).1.s a1 a2 a3 a4 n1 n2 n3 n4 c1 c2 c3 c4 w (ActP o L w B T M) hk (by rw [← hW]; exact (drop_t B T M bl L o W hTW hG hk hid _ _ iP iM nP nM).mono fun e w' ⟨e1, e2⟩ => ⟨e1, back w' e2⟩)
  by_cases hk : o.kind = 6
  · obtain ⟨q1, q2⟩ := act_quiet o L (.inr (.inr (.inr (.inl hk))))
    rw [q1, q2]
    exact told_6 T o.kind o.a (act o L).1.n (act o L).1.e true o.who o.to (act o L).1.s a1 a2 a3 a4 n1 n2 n3 n4 c1 c2 c3 c4 w (ActP o L w B T M) hk (by rw [← hW]; exact (grant_t B T M bl L o W hTW hG hk hid hto _ _ iP iM nP nM).mono fun e w' ⟨e1, e2⟩ => ⟨e1, back w' e2⟩)
  by_cases hk : o.kind = 7
  · obtain ⟨q1, q2⟩ := act_quiet o L (.inr (.inr (.inr (.inr (.inl hk)))))
    rw [q1, q2]
    exact told_7 T o.kind o.a (act o L).1.n (act o L).1.e true o.who o.to (act o L).1.s a1 a2 a3 a4 n1 n2 n3 n4 c1 c2 c3 c4 w (ActP o L w B T M) hk (by rw [← hW]; exact (give_t B T M bl L o W hTW hG hk hid _ _ iP iM nP nM).mono fun e w' ⟨e1, e2⟩ => ⟨e1, back w' e2⟩)
  by_cases hk : o.kind = 8
  · obtain ⟨q1, q2⟩ := act_quiet o L (.inr (.inr (.inr (.inr (.inr hk)))))
    rw [q1, q2]
    exact told_8 T o.kind o.a (act o L).1.n (act o L).1.e true o.who o.to (act o L).1.s a1 a2 a3 a4 n1 n2 n3 n4 c1 c2 c3 c4 w (ActP o L w B T M) hk (by rw [← hW]; exact (signal_t B T M bl L o W hTW hG hk hid hto).mono fun e w' ⟨e1, e2⟩ => ⟨e1, back w' e2⟩)
  by_cases hk : o.kind = 9
  · rw [act_s0 o L (.inr hk)]
    exact told_9 T o.kind o.a (act o L).1.n (act o L).1.e true o.who o.to (act o L).1.s a1 a2 a3 a4 n1 n2 n3 n4 c1 c2 c3 c4 w (ActP o L w B T M) hk (by rw [← hW]; exact (mask_t B T M bl L o W hTW hG hk hid).mono fun e w' ⟨e1, e2⟩ => ⟨e1, back w' e2⟩)
  · have hk10 : ∀ i : Int, 0 ≤ i → i ≤ 9 → o.kind ≠ i := fun i i0 i9 e => by omega
    have hna : isAct o.kind = false := by
      unfold isAct
      simp only [Bool.and_eq_false_iff, decide_eq_false_iff_not]
      omega
    refine (told_10 T o.kind o.a (act o L).1.n (act o L).1.e (decide ((act o L).1.s = yesB)) o.who o.to (act o L).1.s a1 a2 a3 a4 n1 n2 n3 n4 c1 c2 c3 c4 w (fun w' => ((act o L).1.e = 0 ∧ ((act o L).1.s = yesB ∨ (act o L).1.s = emp)) ∧ ActP o L w B T M w') hk10 (by rw [← hW]; exact (pend_t B T M bl L o W hTW hG hna hid hTT h1W).mono fun e w' ⟨⟨e1, e2⟩, e3⟩ => ⟨e1, e2, back w' e3⟩)).mono ?_
    rintro e w' ⟨rfl, ⟨e1, e2⟩, e3⟩
    refine ⟨?_, e3⟩
    rw [e1]
    rcases e2 with e2 | e2
    · rw [e2]; simp only [decide_true, if_true]; rfl
    · rw [e2]; rw [show decide (emp = yesB) = false from by decide]; rfl
end Go.Proofs.YtmphnoabkmoafaaGreatDoor
