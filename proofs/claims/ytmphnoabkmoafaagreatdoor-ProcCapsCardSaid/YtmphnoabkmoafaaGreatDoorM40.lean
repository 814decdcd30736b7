/- The capabilities of a process, as the law's own closure tells them. -/
import Derived.Test.YtmphnoabkmoafaaGreatDoorM38
import Derived.Test.YtmphnoabkmoafaaGreatDoorM39
namespace Go.Proofs.YtmphnoabkmoafaaGreatDoor
open Go.RowKit Go.Maps
set_option linter.unusedVariables false
variable {uu0 : Unit} [Base uu0]
set_option maxRecDepth 100000 in
set_option maxHeartbeats 2000000 in
theorem capsf_any (B T M : Nat) (bl : ByteArray → Nat) (L : List PR) (id : ByteArray) (w : World) (h : TabAt w B T M bl L) (hF : ∀ p ∈ L, Fine p) (hid : id.size ≤ maxLen) (bx : Nat) (hbx : w.cell? ⟨bx, 0, none⟩ = some (ptr T)) (hbl : bx < w.heap.size) :
    Calls Tryz.prog 19 #[.string id, ptr bx] w fun e w' => ∃ x y, e = .returned (.agg #[x, y]) ∧ IntsAt w' x (capsOf L id).1 ∧ IntsAt w' y (capsOf L id).2 ∧ Below w.heap.size w w' := by
  obtain ⟨O, hO⟩ : ∃ O, O = Obj.cells #[.slice none 0 0, .slice none 0 0] 34 := ⟨_, rfl⟩
  obtain ⟨W, hW⟩ : ∃ W, W = w.alloc O := ⟨_, rfl⟩
  have bW : Below w.heap.size w W := by rw [hW]; exact (Below.refl _ _).alloc (Nat.le_refl _) _
  have row : W.heap[w.heap.size]? = some (.cells #[.slice none 0 0, .slice none 0 0] 34 (0, 0)) := by rw [hW, hO]; exact heap_alloc_new w _
  have hTW := h.below bW
  have x0 : W.cell? ⟨bx, 0, none⟩ = some (ptr T) := (bW.cell (p := ⟨bx, 0, none⟩) hbl).trans hbx
  have HB := Lib.hid bW
  have HLO : Hid (Base.lo ≤ w.heap.size) := by have := h.lowB; have := h.lowT; have := h.ltT; show Base.lo ≤ w.heap.size; omega
  obtain ⟨g, hg⟩ : ∃ g, g = w.heap.size := ⟨_, rfl⟩
  have HG := Lib.hid hg
  have HGl : Hid (g < W.heap.size) := by rw [← hg] at row; exact (Array.getElem?_eq_some_iff.1 row).1
  rw [← hg] at row
  unfold capsOf
  cases hgt : get L id with
  | none =>
    have k := info_none_b B T M bl L id W hTW hid hgt
    have HK := Lib.hid k
    have HR := Lib.hid row
    clear k hTW h hgt hF hid bW hbx hbl row hg
    unfold ptr noInfo at *
    go_enter Tryz.func19, Tryz.ntmps19
    go_upto_region 1 with (fail)
    rw [← hO, ← hW, ← HG.out]
    clear hO hW
    go_upto_region 2 with (go_at_call 8; refine HK.out.mono ?_; rintro e w1 ⟨rfl, b1⟩)
    obtain ⟨W2, hW2⟩ : ∃ W2, W2 = w1.alloc (.cells #[.string ⟨#[]⟩, .string ⟨#[]⟩, .slice none 0 0, .slice none 0 0, .slice none 0 0, .slice none 0 0, .int .i64 0, .int .i64 0, .bool false, .int .i64 0] 38) := ⟨_, rfl⟩
    rw [← hW2]
    have b2 : Below w1.heap.size w1 W2 := by rw [hW2]; exact (Below.refl _ _).alloc (Nat.le_refl _) _
    have b3 : Below W.heap.size W W2 := b1.trans (b2.mono b1.size)
    have row2 : W2.heap[g]? = some (.cells #[.slice none 0 0, .slice none 0 0] 34 (0, 0)) := (b3.block g HGl.out).trans HR.out
    clear hW2 b1 b2
    have A0 := Lib.hid (AtT.start row2)
    have z0 : W2.cell? ⟨g, 0, none⟩ = some (.slice none 0 0) := A0.out.cell 0
    have y0 : W2.frozen? ⟨g, 0, none⟩ = false := A0.out.frozen 0
    have z1 : (W2.setCell ⟨g, 0, none⟩ (.slice none 0 0)).cell? ⟨g, 1, none⟩ = some (.slice none 0 0) := (A0.out.set 0 _).cell 1
    have y1 : (W2.setCell ⟨g, 0, none⟩ (.slice none 0 0)).frozen? ⟨g, 1, none⟩ = false := (A0.out.set 0 _).frozen 1
    have HB3 := Lib.hid (HB.out.trans (b3.mono HB.out.size))
    clear b3 row2
    go_wp2
    have A2 := (A0.out.set 0 (.slice none 0 0)).set 1 (.slice none 0 0)
    have r0 := A2.cell 0
    have r1 := A2.cell 1
    exact bodyPost_ret (v := .agg #[.slice none 0 0, .slice none 0 0]) (by simp [results, Tryz.results19, go_sem, r0, r1]) rfl ⟨_, _, rfl, IntsAt.nil _, IntsAt.nil _, HB3.out.trans (by rw [← HG.out]; exact A2.below)⟩
  | some p =>
    obtain ⟨hpL, hpid⟩ := get_mem hgt
    have k := info_some_b B T M bl L id W p hTW hid (hF p hpL) hgt
    have HK := Lib.hid k
    have HR := Lib.hid row
    clear k hTW h hgt hF hid bW hbx hbl row hg hpL hpid
    unfold ptr infoV at *
    go_enter Tryz.func19, Tryz.ntmps19
    go_upto_region 1 with (fail)
    rw [← hO, ← hW, ← HG.out]
    clear hO hW
    go_upto_region 2 with (go_at_call 8; refine HK.out.mono ?_; rintro e w1 ⟨u0, u1, u2, u3, rfl, i0, i1, i2, i3, b1⟩; obtain ⟨a0, m0, c0, rfl⟩ := i0.shape3; obtain ⟨a1, m1, c1, rfl⟩ := i1.shape3; obtain ⟨a2, m2, c2, rfl⟩ := i2.shape3; obtain ⟨a3, m3, c3, rfl⟩ := i3.shape3)
    obtain ⟨W2, hW2⟩ : ∃ W2, W2 = w1.alloc (.cells #[.string p.id, .string p.par, .slice a0 m0 c0, .slice a1 m1 c1, .slice a2 m2 c2, .slice a3 m3 c3, .int .i64 p.share, .int .i64 p.status, .bool p.exited, .int .i64 p.forks] 38) := ⟨_, rfl⟩
    rw [← hW2]
    have b2 : Below w1.heap.size w1 W2 := by rw [hW2]; exact (Below.refl _ _).alloc (Nat.le_refl _) _
    have b3 : Below W.heap.size W W2 := b1.trans (b2.mono b1.size)
    have row2 : W2.heap[g]? = some (.cells #[.slice none 0 0, .slice none 0 0] 34 (0, 0)) := (b3.block g HGl.out).trans HR.out
    have rowI : W2.heap[w1.heap.size]? = some (.cells #[.string p.id, .string p.par, .slice a0 m0 c0, .slice a1 m1 c1, .slice a2 m2 c2, .slice a3 m3 c3, .int .i64 p.share, .int .i64 p.status, .bool p.exited, .int .i64 p.forks] 38 (0, 0)) := by rw [hW2]; exact heap_alloc_new w1 _
    have HI2 := Lib.hid (i2.below b2 (Nat.le_refl _))
    have HI3 := Lib.hid (i3.below b2 (Nat.le_refl _))
    obtain ⟨gi, hgi⟩ : ∃ gi, gi = w1.heap.size := ⟨_, rfl⟩
    rw [← hgi] at rowI ⊢
    have v4 : W2.cell? ⟨gi, 4, none⟩ = some (.slice a2 m2 c2) := by rw [cell_of_row _ _ 4 _ 38 (0, 0) rowI]; rfl
    have v5 : W2.cell? ⟨gi, 5, none⟩ = some (.slice a3 m3 c3) := by rw [cell_of_row _ _ 5 _ 38 (0, 0) rowI]; rfl
    clear hW2 b1 b2 i0 i1 i2 i3 rowI hgi
    have A0 := Lib.hid (AtT.start row2)
    have z0 : W2.cell? ⟨g, 0, none⟩ = some (.slice none 0 0) := A0.out.cell 0
    have y0 : W2.frozen? ⟨g, 0, none⟩ = false := A0.out.frozen 0
    have z1 : (W2.setCell ⟨g, 0, none⟩ (.slice a2 m2 c2)).cell? ⟨g, 1, none⟩ = some (.slice none 0 0) := (A0.out.set 0 _).cell 1
    have y1 : (W2.setCell ⟨g, 0, none⟩ (.slice a2 m2 c2)).frozen? ⟨g, 1, none⟩ = false := (A0.out.set 0 _).frozen 1
    have HB3 := Lib.hid (HB.out.trans (b3.mono HB.out.size))
    clear b3 row2
    go_wp2
    have A2 := (A0.out.set 0 (.slice a2 m2 c2)).set 1 (.slice a3 m3 c3)
    have r0 := A2.cell 0
    have r1 := A2.cell 1
    exact bodyPost_ret (v := .agg #[.slice a2 m2 c2, .slice a3 m3 c3]) (by simp [results, Tryz.results19, go_sem, r0, r1]) rfl ⟨_, _, rfl, HI2.out.keep (A2.keep3 (by decide) (by rw [HG.out]; exact HLO.out)), HI3.out.keep (A2.keep3 (by decide) (by rw [HG.out]; exact HLO.out)), HB3.out.trans (by rw [← HG.out]; exact A2.below)⟩
end Go.Proofs.YtmphnoabkmoafaaGreatDoor
