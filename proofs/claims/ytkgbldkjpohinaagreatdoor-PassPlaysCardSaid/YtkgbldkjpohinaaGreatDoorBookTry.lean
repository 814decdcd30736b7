/- (*Book).Try: the right text. -/
import Derived.Test.YtkgbldkjpohinaaGreatDoorBookStr
namespace Go.Proofs.YtkgbldkjpohinaaGreatDoor
open Go.RowKit Go.Maps
open Go.WideMaps (keyOf_string_mk)
theorem failD_inj {a b c d : Int} (h : failD a b = failD c d) : a = c ∧ b = d := by simpa [failD] using h
theorem entD_inj {s x s' x' : ByteArray} {t n t' n' : Int} (h : entD s t x n = entD s' t' x' n') : s = s' ∧ t = t' ∧ x = x' ∧ n = n' := by
  simp only [entD, DataW.agg.injEq, List.cons.injEq, DataW.lit.injEq, Lit.string.injEq, Lit.int.injEq, true_and, and_true] at h
  obtain ⟨h1, h2, h3, h4⟩ := h
  refine ⟨?_, h2, ?_, h4⟩
  · cases s; cases s'; simpa [Array.toList_inj] using h1
  · cases x; cases x'; simpa [Array.toList_inj] using h3
set_option maxRecDepth 100000 in
set_option maxHeartbeats 1000000 in
theorem try_right (b mu mf nu nf : Nat) (Du Df : DataW Unit) (tries wait : Int) (name text : ByteArray) (now : Int) (p q : ByteArray) (tt i c t : Int) (w : World) (hB : BookAt w b tries wait mu mf) (hu : w.ownsMap Tryz.prog 9 readU mu nu Du) (hf : w.ownsMap Tryz.prog 9 readF mf nf Df)
    (hn : name.size ≤ maxLen) (ht : text.size ≤ 64) (h0 : 0 ≤ now) (hU : Maps.has Du (.string name.data.toList) = true) (hatU : Du.atKey (.string name.data.toList) noU = entD p tt q i) (hatF : Df.atKey (.string name.data.toList) noF = failD c t) (hps : p.size ≤ 16) (hq : hashOf p text tt = q) (hc : c < tries) :
    Calls Tryz.prog 9 #[.pointer (some ⟨b, 0, none⟩), .string name, .string text, .int .i64 now] w fun e w' => e = .returned (.tuple #[.int .i64 i, .int .i64 0]) ∧ w'.ownsMap Tryz.prog 9 readF mf nf (Df.del (.string name.data.toList)) ∧ w.grownBy w' (some mf) := by
  have c0 : w.cell? ⟨b, 0, none⟩ = some (.int .i64 tries) := by rw [cell_of_row w b 0 _ 47 (0, 0) hB]; rfl
  have c1 : w.cell? ⟨b, 1, none⟩ = some (.int .i64 wait) := by rw [cell_of_row w b 1 _ 47 (0, 0) hB]; rfl
  have c2 : w.cell? ⟨b, 2, none⟩ = some (.map (some mu)) := by rw [cell_of_row w b 2 _ 47 (0, 0) hB]; rfl
  have c3 : w.cell? ⟨b, 3, none⟩ = some (.map (some mf)) := by rw [cell_of_row w b 3 _ 47 (0, 0) hB]; rfl
  have hlt : b < w.heap.size := (Array.getElem?_eq_some_iff.1 hB).1
  have d1 : decide ((text.size : Int) > 64) = false := by simp; omega
  have d2 : decide (now < 0) = false := by simp; omega
  have d3 : decide (c ≥ tries) = false := by simp; omega
  go_enter Tryz.func9, Tryz.ntmps9
  go_wp2_with (first
    | (at_lookup; refine wpList_lookup_user _ rfl _ _ rfl mu nu Du rfl hu name rfl hn ?_; intro p0 t0 q0 i0' hat0; obtain ⟨rfl, rfl, rfl, rfl⟩ := entD_inj (hatU.symm.trans hat0))
    | (at_lookup; refine wpList_lookup_fail _ rfl _ _ rfl mf nf Df rfl (hf.alloc _) name rfl hn ?_; intro c0' t0' hat1; obtain ⟨rfl, rfl⟩ := failD_inj (hatF.symm.trans hat1)))
  obtain ⟨W, hW⟩ : ∃ W, W = ((w.alloc (Obj.cells #[.string p, .int .i64 tt, .string q, .int .i64 i] 53)).alloc (Obj.cells #[.int .i64 c, .int .i64 t] 63)) := ⟨_, rfl⟩
  have e1 : (w.alloc (Obj.cells #[.string p, .int .i64 tt, .string q, .int .i64 i] 53)).heap.size = w.heap.size + 1 := by simp
  have hWb : Below w.heap.size w W := by rw [hW]; exact ((Below.refl _ _).alloc (Nat.le_refl _) _).alloc (by simp) _
  have hWs : W.heap.size = w.heap.size + 2 := by rw [hW]; simp
  have hF : W.heap[w.heap.size + 1]? = some (.cells #[.int .i64 c, .int .i64 t] 63 (0, 0)) := by rw [hW, ← e1]; exact heap_alloc_new _ _
  have hU2 : W.heap[w.heap.size]? = some (.cells #[.string p, .int .i64 tt, .string q, .int .i64 i] 53 (0, 0)) := by rw [hW, Go.RowKit.Below.heap_alloc _ _ _ (by simp)]; exact heap_alloc_new _ _
  have u0 : W.cell? ⟨w.heap.size, 0, none⟩ = some (.string p) := by rw [cell_of_row W _ 0 _ 53 (0, 0) hU2]; rfl
  have u1 : W.cell? ⟨w.heap.size, 1, none⟩ = some (.int .i64 tt) := by rw [cell_of_row W _ 1 _ 53 (0, 0) hU2]; rfl
  have u2 : W.cell? ⟨w.heap.size, 2, none⟩ = some (.string q) := by rw [cell_of_row W _ 2 _ 53 (0, 0) hU2]; rfl
  have u3 : W.cell? ⟨w.heap.size, 3, none⟩ = some (.int .i64 i) := by rw [cell_of_row W _ 3 _ 53 (0, 0) hU2]; rfl
  have f0 : W.cell? ⟨w.heap.size + 1, 0, none⟩ = some (.int .i64 c) := by rw [cell_of_row W _ 0 _ 63 (0, 0) hF]; rfl
  have b0 : W.cell? ⟨b, 0, none⟩ = some (.int .i64 tries) := (hWb.cell (p := ⟨b, 0, none⟩) hlt).trans c0
  have b3 : W.cell? ⟨b, 3, none⟩ = some (.map (some mf)) := (hWb.cell (p := ⟨b, 3, none⟩) hlt).trans c3
  have hfW := ownsMap_below hf hWb hf.lt
  rw [← hW]
  clear hW e1 hF hU2
  have hq' : strOfNums (hexL (stretchL (bytesOf p) (bytesOf text) (min (max tt 0) 1000).toNat)) = q := hq
  have Hq := Lib.hid hq'
  clear hq hq'
  go_quiet (fail)
  go_wp2
  have v0 : ∀ n, (W.drewN n).drew.cell? ⟨w.heap.size, 0, none⟩ = some (.string p) := fun _ => u0
  have v1 : ∀ n, (W.drewN n).drew.cell? ⟨w.heap.size, 1, none⟩ = some (.int .i64 tt) := fun _ => u1
  have v2 : ∀ n, (W.drewN n).drew.cell? ⟨w.heap.size, 2, none⟩ = some (.string q) := fun _ => u2
  go_region_with (go_at_call 17; refine (stretch_any p text tt _ (by omega)).mono ?_; rintro e w3 ⟨rfl, hb3⟩; have hW3 : Below W.heap.size W w3 := ⟨hb3.os, hb3.tape, hb3.output, hb3.size, hb3.block⟩; have u2' : w3.cell? ⟨w.heap.size, 2, none⟩ = some (.string q) := (hW3.cell (p := ⟨w.heap.size, 2, none⟩) (by simp; omega)).trans u2; rw [Hq.out])
  all_goals
    have b3' : w3.cell? ⟨b, 3, none⟩ = some (.map (some mf)) := (hW3.cell (p := ⟨b, 3, none⟩) (by simp; omega)).trans b3
    have u3' : w3.cell? ⟨w.heap.size, 3, none⟩ = some (.int .i64 i) := (hW3.cell (p := ⟨w.heap.size, 3, none⟩) (by simp; omega)).trans u3
    have hf3 := ownsMap_below hfW hW3 hfW.lt
    have hl3 := hW3.size
    have hmfl := hf.lt
    have hw3 : Below w.heap.size w w3 := hWb.trans (hW3.mono (by omega))
    go_wp2_with (at_delete; refine wpList_delete_own _ rfl _ _ 45 9 rfl 63 law9 und60 readF mf nf Df rfl hf3 _ _ rfl (keyOf_string_mk und9 hn) ?_; intro w4 hown4 hturn4; have u4 : w4.cell? ⟨w.heap.size, 3, none⟩ = some (.int .i64 i) := (World.cell?_of_block (w := w3) (hturn4.grown.block w.heap.size (by omega) (by simp; omega))).trans u3')
    go_ret2
    exact ⟨rfl, hown4, (grown_below hw3 (some mf)).trans hturn4.grown⟩
end Go.Proofs.YtkgbldkjpohinaaGreatDoor
