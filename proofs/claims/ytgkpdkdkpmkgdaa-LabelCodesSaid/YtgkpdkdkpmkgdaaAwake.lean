/- The law's own awake (layer 3) answers true. -/
import Derived.Test.YtgkpdkdkpmkgdaaPlain
import Derived.Test.YtgkpdkdkpmkgdaaJoin
import Derived.Test.YtgkpdkdkpmkgdaaSafe
namespace Go.Proofs.Ytgkpdkdkpmkgdaa
open Go.RowKit
theorem join_1323 : joinL [1, 3] [2, 3] = [1, 2, 3] ∧ joinOk [1, 3] [2, 3] = true := by
  have h : normL ([1, 3] ++ [2, 3]) = [1, 2, 3] := normL_eq _ _ (by decide) (by intro x; simp; omega)
  have h1 : setL [1, 3] = true := by decide
  have h2 : setL [2, 3] = true := by decide
  have h3 : setL [1, 2, 3] = true := by decide
  refine ⟨?_, ?_⟩
  · rw [joinL, h1, h2, normV, h, h3]; rfl
  · rw [joinOk, h1, h2, h, h3]; rfl
/-- The world behind the two labels of awake. -/
def labW (w1 : World) : World :=
  (((w1.alloc (.cells #[.int .i64 1] 3)).alloc (.cells #[.int .i64 1, .int .i64 2] 3)).alloc (.cells #[.slice (some ⟨w1.heap.size, 0, none⟩) 1 1, .slice none 0 0] 26)).alloc (.cells #[.slice (some ⟨w1.heap.size + 1, 0, none⟩) 2 2, .slice none 0 0] 26)
structure LabW (w1 W : World) : Prop where
  below : Below w1.heap.size w1 W
  size : w1.heap.size + 4 ≤ W.heap.size
  i1 : IntsAt W (.slice (some ⟨w1.heap.size, 0, none⟩) 1 1) [1]
  i2 : IntsAt W (.slice (some ⟨w1.heap.size + 1, 0, none⟩) 2 2) [1, 2]
  a0 : W.cell? ⟨w1.heap.size + 2, 0, none⟩ = some (.slice (some ⟨w1.heap.size, 0, none⟩) 1 1)
  a1 : W.cell? ⟨w1.heap.size + 2, 1, none⟩ = some (.slice none 0 0)
  b0 : W.cell? ⟨w1.heap.size + 3, 0, none⟩ = some (.slice (some ⟨w1.heap.size + 1, 0, none⟩) 2 2)
  b1 : W.cell? ⟨w1.heap.size + 3, 1, none⟩ = some (.slice none 0 0)
theorem LabW.next {w1 W W' : World} (h : LabW w1 W) (hb : Below W.heap.size W W') : LabW w1 W' :=
  have hs := h.size
  ⟨h.below.trans (hb.mono h.below.size), Nat.le_trans hs hb.size, h.i1.below hb (Nat.le_refl _), h.i2.below hb (Nat.le_refl _),
    (hb.cell (p := ⟨w1.heap.size + 2, 0, none⟩) (by simp only; omega)).trans h.a0, (hb.cell (p := ⟨w1.heap.size + 2, 1, none⟩) (by simp only; omega)).trans h.a1,
    (hb.cell (p := ⟨w1.heap.size + 3, 0, none⟩) (by simp only; omega)).trans h.b0, (hb.cell (p := ⟨w1.heap.size + 3, 1, none⟩) (by simp only; omega)).trans h.b1⟩
theorem labW_laws (w1 : World) : LabW w1 (labW w1) := by
  obtain ⟨W1, h1⟩ : ∃ W, W = w1.alloc (.cells #[.int .i64 1] 3) := ⟨_, rfl⟩
  obtain ⟨W2, h2⟩ : ∃ W, W = W1.alloc (.cells #[.int .i64 1, .int .i64 2] 3) := ⟨_, rfl⟩
  obtain ⟨W3, h3⟩ : ∃ W, W = W2.alloc (.cells #[.slice (some ⟨w1.heap.size, 0, none⟩) 1 1, .slice none 0 0] 26) := ⟨_, rfl⟩
  obtain ⟨W4, h4⟩ : ∃ W, W = W3.alloc (.cells #[.slice (some ⟨w1.heap.size + 1, 0, none⟩) 2 2, .slice none 0 0] 26) := ⟨_, rfl⟩
  have e : labW w1 = W4 := by rw [h4, h3, h2, h1]; rfl
  rw [e]
  have s1 : W1.heap.size = w1.heap.size + 1 := by rw [h1]; simp
  have s2 : W2.heap.size = w1.heap.size + 2 := by rw [h2]; simp [s1]
  have s3 : W3.heap.size = w1.heap.size + 3 := by rw [h3]; simp [s2]
  have s4 : W4.heap.size = w1.heap.size + 4 := by rw [h4]; simp [s3]
  have b1 : Below w1.heap.size w1 W1 := by rw [h1]; exact (Below.refl _ _).alloc (Nat.le_refl _) _
  have b2 : Below W1.heap.size W1 W2 := by rw [h2]; exact (Below.refl _ _).alloc (Nat.le_refl _) _
  have b3 : Below W2.heap.size W2 W3 := by rw [h3]; exact (Below.refl _ _).alloc (Nat.le_refl _) _
  have b4 : Below W3.heap.size W3 W4 := by rw [h4]; exact (Below.refl _ _).alloc (Nat.le_refl _) _
  have i1 : IntsAt W1 (.slice (some ⟨w1.heap.size, 0, none⟩) 1 1) [1] := by rw [h1]; exact IntsAt.new w1 3 [1] (by simp)
  have i2 : IntsAt W2 (.slice (some ⟨w1.heap.size + 1, 0, none⟩) 2 2) [1, 2] := by rw [h2, ← s1]; exact IntsAt.new W1 3 [1, 2] (by simp)
  have c3 : W3.heap[w1.heap.size + 2]? = some (.cells #[.slice (some ⟨w1.heap.size, 0, none⟩) 1 1, .slice none 0 0] 26 (0, 0)) := by rw [h3, ← s2]; exact heap_alloc_new _ _
  have c4 : W4.heap[w1.heap.size + 3]? = some (.cells #[.slice (some ⟨w1.heap.size + 1, 0, none⟩) 2 2, .slice none 0 0] 26 (0, 0)) := by rw [h4, ← s3]; exact heap_alloc_new _ _
  have c3' : W4.heap[w1.heap.size + 2]? = some (.cells #[.slice (some ⟨w1.heap.size, 0, none⟩) 1 1, .slice none 0 0] 26 (0, 0)) := (b4.block _ (by omega)).trans c3
  exact ⟨b1.trans ((b2.mono (by omega)).trans ((b3.mono (by omega)).trans (b4.mono (by omega)))), by omega,
    ((i1.below b2 (Nat.le_refl _)).below b3 (Nat.le_refl _)).below b4 (Nat.le_refl _), (i2.below b3 (Nat.le_refl _)).below b4 (Nat.le_refl _),
    by rw [cell_of_row W4 _ 0 _ 26 (0, 0) c3']; rfl, by rw [cell_of_row W4 _ 1 _ 26 (0, 0) c3']; rfl, by rw [cell_of_row W4 _ 0 _ 26 (0, 0) c4]; rfl, by rw [cell_of_row W4 _ 1 _ 26 (0, 0) c4]; rfl⟩
theorem three_laws (w3 : World) : Below w3.heap.size w3 (((w3.alloc (.cells #[.int .i64 1] 3)).alloc (.cells #[.int .i64 2] 3)).alloc (.cells #[.int .i64 2] 3)) ∧
    IntsAt (((w3.alloc (.cells #[.int .i64 1] 3)).alloc (.cells #[.int .i64 2] 3)).alloc (.cells #[.int .i64 2] 3)) (.slice (some ⟨w3.heap.size, 0, none⟩) 1 1) [1] ∧
    IntsAt (((w3.alloc (.cells #[.int .i64 1] 3)).alloc (.cells #[.int .i64 2] 3)).alloc (.cells #[.int .i64 2] 3)) (.slice (some ⟨w3.heap.size + 1, 0, none⟩) 1 1) [2] ∧
    IntsAt (((w3.alloc (.cells #[.int .i64 1] 3)).alloc (.cells #[.int .i64 2] 3)).alloc (.cells #[.int .i64 2] 3)) (.slice (some ⟨w3.heap.size + 1 + 1, 0, none⟩) 1 1) [2] := by
  obtain ⟨W1, h1⟩ : ∃ W, W = w3.alloc (.cells #[.int .i64 1] 3) := ⟨_, rfl⟩
  obtain ⟨W2, h2⟩ : ∃ W, W = W1.alloc (.cells #[.int .i64 2] 3) := ⟨_, rfl⟩
  obtain ⟨W3, h3⟩ : ∃ W, W = W2.alloc (.cells #[.int .i64 2] 3) := ⟨_, rfl⟩
  rw [← h1, ← h2, ← h3]
  have s1 : W1.heap.size = w3.heap.size + 1 := by rw [h1]; simp
  have s2 : W2.heap.size = w3.heap.size + 1 + 1 := by rw [h2]; simp [s1]
  have b1 : Below w3.heap.size w3 W1 := by rw [h1]; exact (Below.refl _ _).alloc (Nat.le_refl _) _
  have b2 : Below W1.heap.size W1 W2 := by rw [h2]; exact (Below.refl _ _).alloc (Nat.le_refl _) _
  have b3 : Below W2.heap.size W2 W3 := by rw [h3]; exact (Below.refl _ _).alloc (Nat.le_refl _) _
  have i1 : IntsAt W1 (.slice (some ⟨w3.heap.size, 0, none⟩) 1 1) [1] := by rw [h1]; exact IntsAt.new w3 3 [1] (by simp)
  have i2 : IntsAt W2 (.slice (some ⟨w3.heap.size + 1, 0, none⟩) 1 1) [2] := by rw [h2, ← s1]; exact IntsAt.new W1 3 [2] (by simp)
  have i3 : IntsAt W3 (.slice (some ⟨w3.heap.size + 1 + 1, 0, none⟩) 1 1) [2] := by rw [h3, ← s2]; exact IntsAt.new W2 3 [2] (by simp)
  exact ⟨b1.trans ((b2.mono (by omega)).trans (b3.mono (by omega))), (i1.below b2 (Nat.le_refl _)).below b3 (Nat.le_refl _), i2.below b3 (Nat.le_refl _), i3⟩
theorem IntsAt.lt {w : World} {g off c n : Nat} {l : List Int} (h : IntsAt w (.slice (some ⟨g, off, none⟩) n c) l) (h0 : 0 < l.length) : g < w.heap.size := by
  rcases h with ⟨rfl, _⟩ | ⟨g', off', c', hv, _, _, h2, _⟩
  · simp at h0
  · obtain ⟨rfl, _⟩ : g = g' ∧ True := by simp at hv; exact ⟨hv.1.1, trivial⟩
    exact h2
set_option maxRecDepth 100000 in
set_option maxHeartbeats 2000000 in
theorem awake3_any (w : World) : Calls Try.prog 11 #[] w fun e w' => e = .returned (.bool true) ∧ Below w.heap.size w w' := by
  have i1 : IntsAt ((w.alloc (.cells #[.int .i64 1, .int .i64 3] 3)).alloc (.cells #[.int .i64 2, .int .i64 3] 3)) (.slice (some ⟨w.heap.size, 0, none⟩) 2 2) [1, 3] := (IntsAt.new w 3 [1, 3] (by simp)).alloc _
  have i2 : IntsAt ((w.alloc (.cells #[.int .i64 1, .int .i64 3] 3)).alloc (.cells #[.int .i64 2, .int .i64 3] 3)) (.slice (some ⟨w.heap.size + 1, 0, none⟩) 2 2) [2, 3] := by
    have := IntsAt.new (w.alloc (.cells #[.int .i64 1, .int .i64 3] 3)) 3 [2, 3] (by simp)
    simpa [lits] using this
  have hb0 : Below w.heap.size w ((w.alloc (.cells #[.int .i64 1, .int .i64 3] 3)).alloc (.cells #[.int .i64 2, .int .i64 3] 3)) := ((Below.refl _ _).alloc (Nat.le_refl _) _).alloc (by simp) _
  go_enter Try.func11, Try.ntmps11
  go_wp2_with (first
    | (go_at_call 15; refine (join_any _ _ [1, 3] [2, 3] _ i1 i2 (by decide) (by decide)).mono ?_; rintro e w1 ⟨v1, rfl, j1, hb1⟩; rw [join_1323.1] at j1; rw [join_1323.2]; obtain ⟨g, off, c, rfl, hcell⟩ := j1.cells (by decide); have hL := labW_laws w1; have d1 : (labW w1).cell? ⟨g, off + 1, none⟩ = some (.int .i64 2) := (hL.below.cell (p := ⟨g, off + 1, none⟩) (j1.lt (by decide))).trans (hcell 1 (by decide)); have HL := Lib.hid hL; clear hL; unfold labW at d1)
    | (go_at_call 22; (refine (flows_any _ _ _ _ [1, 2] [] [1] [] w2 HL2.out.i2 (IntsAt.nil _) HL2.out.i1 (IntsAt.nil _) (by decide) (by decide) (by decide) (by decide)).mono ?_; rintro e w3 ⟨rfl, hb3⟩; rw [show (subL [1, 2] [1] && subL [] []) = false by decide]))
    | (go_at_call 22; (refine (flows_any _ _ _ _ [1] [] [1, 2] [] (labW w1) HL.out.i1 (IntsAt.nil _) HL.out.i2 (IntsAt.nil _) (by decide) (by decide) (by decide) (by decide)).mono ?_; rintro e w2 ⟨rfl, hb2⟩; rw [show (subL [1] [1, 2] && subL [] []) = true by decide]; have hL2 := HL.out.next hb2; have HL2 := Lib.hid hL2; have x0 := hL2.a0; have x1 := hL2.a1; have y0 := hL2.b0; have y1 := hL2.b1; clear hL2))
    | (go_at_call 32; (refine (safe_any _ _ _ _ [1] [2] [2] [] _ (three_laws w3).2.1 (three_laws w3).2.2.1 (three_laws w3).2.2.2 (IntsAt.nil _) (by decide) (by decide) (by decide) (by decide)).mono ?_; rintro e w4 ⟨rfl, hb4⟩; rw [show safeL [1] [2] [2] [] = false by decide])))
  go_ret
  have t := (three_laws w3).1
  have k1 := hb0.trans (hb1.mono hb0.size)
  have k2 := k1.trans (HL.out.below.mono k1.size)
  have k3 := k2.trans (hb2.mono k2.size)
  have k4 := k3.trans (hb3.mono k3.size)
  have k5 := k4.trans (t.mono k4.size)
  exact ⟨rfl, k5.trans (hb4.mono k5.size)⟩
end Go.Proofs.Ytgkpdkdkpmkgdaa
