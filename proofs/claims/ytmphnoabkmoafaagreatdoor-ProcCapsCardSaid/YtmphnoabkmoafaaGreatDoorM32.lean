/- Change and Drop where nothing is done. -/
import Derived.Test.YtmphnoabkmoafaaGreatDoorM18
namespace Go.Proofs.YtmphnoabkmoafaaGreatDoor
open Go.RowKit Go.Maps
set_option linter.unusedVariables false
variable {uu0 : Unit} [Base uu0]
set_option maxRecDepth 100000 in
theorem change_no (B T M : Nat) (bl : ByteArray → Nat) (L : List PR) (id : ByteArray) (vS vI : Value) (w : World) (h : TabAt w B T M bl L) (hid : id.size ≤ maxLen) (hc : ofCode L id ≠ 0) :
    Calls Tryz.prog 30 #[ptr T, .string id, .agg #[vS, vI]] w fun e w' => e = .returned (.int .i64 (ofCode L id)) ∧ TabAt w' B T M bl L ∧ Bel B w w' := by
  obtain ⟨W, hW⟩ : ∃ W, W = w.alloc (.cells #[vS, vI] 32) := ⟨_, rfl⟩
  have bW : Below w.heap.size w W := by rw [hW]; exact (Below.refl _ _).alloc (Nat.le_refl _) _
  have hBw : B ≤ w.heap.size := by have := h.lowT; have := h.ltT; omega
  have hTW := h.below bW
  have ho := of_any B T M bl L id W hTW hid
  rcases of_cases bl L id with ⟨p, hg, hx, e1, e2⟩ | ⟨e1, e2, e3⟩
  · exact absurd e2 hc
  · rw [e1] at ho
    have HT := Lib.hid hTW
    have HB := Lib.hid (bW.bel hBw)
    clear h hTW bW e1 e2 e3
    generalize ofCode L id = c at *
    unfold ptr at *
    go_enter Tryz.func30, Tryz.ntmps30
    go_upto_region 1 with (fail)
    rw [← hW]
    clear hW
    go_wp2_with (go_at_call 23; refine ho.mono ?_; rintro e w1 ⟨rfl, rfl⟩)
    go_ret
    exact ⟨rfl, HT.out, HB.out⟩
set_option maxRecDepth 100000 in
theorem change_arg (B T M : Nat) (bl : ByteArray → Nat) (L : List PR) (id : ByteArray) (vS vI : Value) (lS lI : List Int) (w : World) (p : PR) (h : TabAt w B T M bl L) (hid : id.size ≤ maxLen) (hg : get L id = some p) (hx : p.exited = false)
    (hS : IntsAt w vS lS) (hI : IntsAt w vI lI) (nS : lS.length ≤ 17592186043904) (nI : lI.length ≤ 17592186043904) (hm : (setL lS && setL lI) = false) :
    Calls Tryz.prog 30 #[ptr T, .string id, .agg #[vS, vI]] w fun e w' => e = .returned (.int .i64 1) ∧ TabAt w' B T M bl L ∧ Bel B w w' := by
  obtain ⟨sS, mS, cS, rfl⟩ := hS.shape3
  obtain ⟨sI, mI, cI, rfl⟩ := hI.shape3
  obtain ⟨W, hW⟩ : ∃ W, W = w.alloc (.cells #[.slice sS mS cS, .slice sI mI cI] 32) := ⟨_, rfl⟩
  have bW : Below w.heap.size w W := by rw [hW]; exact (Below.refl _ _).alloc (Nat.le_refl _) _
  have hBw : B ≤ w.heap.size := by have := h.lowT; have := h.ltT; omega
  have hTW := h.below bW
  have row : W.heap[w.heap.size]? = some (.cells #[.slice sS mS cS, .slice sI mI cI] 32 (0, 0)) := by rw [hW]; exact heap_alloc_new w _
  have x0 : W.cell? ⟨w.heap.size, 0, none⟩ = some (.slice sS mS cS) := by rw [cell_of_row _ _ 0 _ 32 (0, 0) row]; rfl
  have x1 : W.cell? ⟨w.heap.size, 1, none⟩ = some (.slice sI mI cI) := by rw [cell_of_row _ _ 1 _ 32 (0, 0) row]; rfl
  have ho := of_any B T M bl L id W hTW hid
  obtain ⟨e1, e2⟩ := of_live (bl := bl) hg hx
  rw [e1, e2] at ho
  have k1 := may_any _ _ lS lI W (hS.below bW (Nat.le_refl _)) (hI.below bW (Nat.le_refl _)) nS nI
  rw [hm] at k1
  have K1 := Lib.hid k1
  have HT := Lib.hid hTW
  have HB := Lib.hid (bW.bel hBw)
  have HBW : Hid (B ≤ W.heap.size) := Nat.le_trans hBw bW.size
  obtain ⟨bx, hbx⟩ : ∃ bx, bx = w.heap.size := ⟨_, rfl⟩
  rw [← hbx] at x0 x1
  clear hS hI k1 hTW bW h e1 e2 hg hm hx hBw row
  unfold ptr at *
  generalize bl p.id = g at *
  go_enter Tryz.func30, Tryz.ntmps30
  go_upto_region 1 with (fail)
  rw [← hW, ← hbx]
  clear hW hbx
  go_wp2_with (first
    | (go_at_call 23; refine ho.mono ?_; rintro e w1 ⟨rfl, rfl⟩)
    | (go_at_call 64; refine K1.out.mono ?_; rintro e w2 ⟨rfl, b2⟩))
  go_ret
  exact ⟨rfl, HT.out.below b2, HB.out.trans (b2.bel HBW.out)⟩
set_option maxRecDepth 100000 in
theorem drop_no (B T M : Nat) (bl : ByteArray → Nat) (L : List PR) (id : ByteArray) (vS vI : Value) (w : World) (h : TabAt w B T M bl L) (hid : id.size ≤ maxLen) (hc : ofCode L id ≠ 0) :
    Calls Tryz.prog 31 #[ptr T, .string id, .agg #[vS, vI]] w fun e w' => e = .returned (.int .i64 (ofCode L id)) ∧ TabAt w' B T M bl L ∧ Bel B w w' := by
  obtain ⟨W, hW⟩ : ∃ W, W = w.alloc (.cells #[vS, vI] 34) := ⟨_, rfl⟩
  have bW : Below w.heap.size w W := by rw [hW]; exact (Below.refl _ _).alloc (Nat.le_refl _) _
  have hBw : B ≤ w.heap.size := by have := h.lowT; have := h.ltT; omega
  have hTW := h.below bW
  have ho := of_any B T M bl L id W hTW hid
  rcases of_cases bl L id with ⟨p, hg, hx, e1, e2⟩ | ⟨e1, e2, e3⟩
  · exact absurd e2 hc
  · rw [e1] at ho
    have HT := Lib.hid hTW
    have HB := Lib.hid (bW.bel hBw)
    clear h hTW bW e1 e2 e3
    generalize ofCode L id = c at *
    unfold ptr at *
    go_enter Tryz.func31, Tryz.ntmps31
    go_upto_region 1 with (fail)
    rw [← hW]
    clear hW
    go_wp2_with (go_at_call 23; refine ho.mono ?_; rintro e w1 ⟨rfl, rfl⟩)
    go_ret
    exact ⟨rfl, HT.out, HB.out⟩
set_option maxRecDepth 100000 in
theorem drop_arg (B T M : Nat) (bl : ByteArray → Nat) (L : List PR) (id : ByteArray) (vS vI : Value) (lS lI : List Int) (w : World) (p : PR) (h : TabAt w B T M bl L) (hid : id.size ≤ maxLen) (hg : get L id = some p) (hx : p.exited = false)
    (hS : IntsAt w vS lS) (hI : IntsAt w vI lI) (nS : lS.length ≤ 17592186043904) (nI : lI.length ≤ 17592186043904) (hm : (setL lS && setL lI) = false) :
    Calls Tryz.prog 31 #[ptr T, .string id, .agg #[vS, vI]] w fun e w' => e = .returned (.int .i64 1) ∧ TabAt w' B T M bl L ∧ Bel B w w' := by
  obtain ⟨sS, mS, cS, rfl⟩ := hS.shape3
  obtain ⟨sI, mI, cI, rfl⟩ := hI.shape3
  obtain ⟨W, hW⟩ : ∃ W, W = w.alloc (.cells #[.slice sS mS cS, .slice sI mI cI] 34) := ⟨_, rfl⟩
  have bW : Below w.heap.size w W := by rw [hW]; exact (Below.refl _ _).alloc (Nat.le_refl _) _
  have hBw : B ≤ w.heap.size := by have := h.lowT; have := h.ltT; omega
  have hTW := h.below bW
  have row : W.heap[w.heap.size]? = some (.cells #[.slice sS mS cS, .slice sI mI cI] 34 (0, 0)) := by rw [hW]; exact heap_alloc_new w _
  have x0 : W.cell? ⟨w.heap.size, 0, none⟩ = some (.slice sS mS cS) := by rw [cell_of_row _ _ 0 _ 34 (0, 0) row]; rfl
  have x1 : W.cell? ⟨w.heap.size, 1, none⟩ = some (.slice sI mI cI) := by rw [cell_of_row _ _ 1 _ 34 (0, 0) row]; rfl
  have ho := of_any B T M bl L id W hTW hid
  obtain ⟨e1, e2⟩ := of_live (bl := bl) hg hx
  rw [e1, e2] at ho
  have k1 := sets_any _ _ lS lI W (hS.below bW (Nat.le_refl _)) (hI.below bW (Nat.le_refl _)) nS nI
  rw [hm] at k1
  have K1 := Lib.hid k1
  have HT := Lib.hid hTW
  have HB := Lib.hid (bW.bel hBw)
  have HBW : Hid (B ≤ W.heap.size) := Nat.le_trans hBw bW.size
  obtain ⟨bx, hbx⟩ : ∃ bx, bx = w.heap.size := ⟨_, rfl⟩
  rw [← hbx] at x0 x1
  clear hS hI k1 hTW bW h e1 e2 hg hm hx hBw row
  unfold ptr at *
  generalize bl p.id = g at *
  go_enter Tryz.func31, Tryz.ntmps31
  go_upto_region 1 with (fail)
  rw [← hW, ← hbx]
  clear hW hbx
  go_wp2_with (first
    | (go_at_call 23; refine ho.mono ?_; rintro e w1 ⟨rfl, rfl⟩)
    | (go_at_call 66; refine K1.out.mono ?_; rintro e w2 ⟨rfl, b2⟩))
  go_ret
  exact ⟨rfl, HT.out.below b2, HB.out.trans (b2.bel HBW.out)⟩
end Go.Proofs.YtmphnoabkmoafaaGreatDoor
