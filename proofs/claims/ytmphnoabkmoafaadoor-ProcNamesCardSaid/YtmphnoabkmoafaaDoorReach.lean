/- reach and Signal. -/
import Derived.Test.YtmphnoabkmoafaaDoorExit
import Derived.Test.YtmphnoabkmoafaaDoorValid
namespace Go.Proofs.YtmphnoabkmoafaaDoor
open Go.RowKit Go.Maps
set_option linter.unusedVariables false
/-- Nobody lives by that name. -/
def noneLives (L : List PR) (to : ByteArray) : Bool := match get L to with | none => true | some q => q.exited
set_option maxRecDepth 100000 in
theorem reach_none (B T M : Nat) (bl : ByteArray → Nat) (L : List PR) (to : ByteArray) (v F : Value) (w : World) (h : TabAt w B T M bl L) (hid : to.size ≤ maxLen) (hn : noneLives L to = true) :
    Calls Tryd.prog 33 #[ptr T, v, .string to, F] w fun e w' => e = .returned (.int .i64 0) ∧ w' = w := by
  have hrun := h.lookup to hid
  have c0 := h.cellT
  unfold noneLives at hn
  unfold ptrOf at hrun
  cases hg : get L to with
  | none =>
    rw [hg] at hrun
    simp only at hrun
    unfold ptr
    clear hg hn h
    go_enter Tryd.func33, Tryd.ntmps33
    go_wp2
    go_ret
    exact ⟨rfl, rfl⟩
  | some q =>
    rw [hg] at hrun hn
    simp only at hrun hn
    obtain ⟨a, b, c, d, hp⟩ := h.procs q (get_mem hg).1
    have c8 : w.cell? ⟨bl q.id, 8, none⟩ = some (.bool q.exited) := hp.cell 8
    unfold ptr at hrun ⊢
    rw [hn] at c8
    clear hg hn h hp
    generalize bl q.id = g at *
    go_enter Tryd.func33, Tryd.ntmps33
    go_wp2
    go_ret
    exact ⟨rfl, rfl⟩
set_option maxRecDepth 100000 in
set_option maxHeartbeats 1000000 in
/-- A signal to one that is not there. -/
theorem signal_none (B T M : Nat) (bl : ByteArray → Nat) (L : List PR) (id to : ByteArray) (sig : Int) (w : World) (h : TabAt w B T M bl L) (hid : id.size ≤ maxLen) (hto : to.size ≤ 1000000000) (h0 : ofCode L id = 0) (h1 : 1 ≤ sig) (h2 : sig ≤ 15) (hv : validB to = true) (hn : noneLives L to = true) :
    Calls Tryd.prog 19 #[ptr T, .string id, .string to, .int .i64 sig] w fun e w' => e = .returned (.int .i64 0) ∧ TabAt w' B T M bl L ∧ Bel B w w' := by
  obtain ⟨W, hW⟩ : ∃ W, W = w.alloc (.cells #[.int .i64 sig] 3) := ⟨_, rfl⟩
  have bW : Below w.heap.size w W := by rw [hW]; exact (Below.refl _ _).alloc (Nat.le_refl _) _
  have hBw : B ≤ w.heap.size := by have := h.lowT; have := h.ltT; omega
  have hTW := h.below bW
  have ho := of_any B T M bl L id W hTW hid
  rcases of_cases bl L id with ⟨p, hg, hx, e1, e2⟩ | ⟨e1, e2, e3⟩
  · rw [e1, e2] at ho
    have cs : ∀ W', Below W.heap.size W W' → W'.cell? ⟨w.heap.size, 0, none⟩ = some (.int .i64 sig) := fun W' k => by
      rw [k.cell (p := ⟨w.heap.size, 0, none⟩) (by rw [hW]; simp), hW, cell_of_row _ _ 0 _ 3 (0, 0) (heap_alloc_new w _)]
      rfl
    have cv := fun W' => valid_any to W' (by omega)
    rw [hv] at cv
    have cr := fun W' v F (k : TabAt W' B T M bl L) => reach_none B T M bl L to v F W' k (by unfold maxLen; omega) hn
    have cs0 := cs W (Below.refl _ _)
    have CS := Lib.hid cs
    have HT := Lib.hid hTW
    have HB := Lib.hid (bW.bel hBw)
    have HBW : Hid (B ≤ W.heap.size) := Nat.le_trans hBw bW.size
    clear h hTW bW hg e1 e2 cs
    have d1 : decide (sig < 1) = false := by simp; omega
    have d2 : decide (sig > 15) = false := by simp; omega
    unfold ptr at *
    generalize bl p.id = g at *
    go_enter Tryd.func19, Tryd.ntmps19
    go_upto_region 1 with (fail)
    rw [← hW]
    clear hW
    go_wp2_with (first
      | (go_at_call 25; refine ho.mono ?_; rintro e w1 ⟨rfl, rfl⟩)
      | (go_at_call 32; refine (cv _).mono ?_; rintro e w2 ⟨rfl, b2⟩; have cs1 := CS.out w2 b2; have HT2 := Lib.hid (HT.out.below b2))
      | (go_at_call 33; refine (cr _ _ _ HT2.out).mono ?_; rintro e w3 ⟨rfl, rfl⟩))
    go_ret
    exact ⟨rfl, HT2.out, HB.out.trans (b2.bel HBW.out)⟩
  · exact absurd h0 e2
end Go.Proofs.YtmphnoabkmoafaaDoor
