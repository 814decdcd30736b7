/- (*Book).Change. -/
import Derived.Test.YtkgbldkjpohinaaGreatDoorBookAwake
import Derived.Deep.Cut
namespace Go.Proofs.YtkgbldkjpohinaaGreatDoor
open Go.RowKit Go.Maps
set_option linter.unusedVariables false
section
variable {w0 w w' : World} {b mu mf : Nat} {tries wait : Int} {nu nf : Nat} {Du Df : DataW Unit}
set_option maxRecDepth 100000 in
set_option maxHeartbeats 1000000 in
theorem change_wrong (name old text : ByteArray) (now : Int) (p q : ByteArray) (tt i c t : Int) (h : BookSt w0 w b mu mf tries wait nu nf Du Df)
    (hn : name.size ≤ maxLen) (ho : old.size ≤ 64) (ht : text.size ≤ 64) (h0 : 0 ≤ now) (hU : Maps.has Du (.string name.data.toList) = true) (hatU : Du.atKey (.string name.data.toList) noU = entD p tt q i) (hatF : Df.atKey (.string name.data.toList) noF = failD c t) (hps : p.size ≤ 16) (hq : hashOf p old tt ≠ q) (hc : c < tries) (hcr : 0 ≤ c ∧ c < 1000) (hnf : nf < 1000000) :
    Calls Tryz.prog 11 #[.pointer (some ⟨b, 0, none⟩), .string name, .string old, .string text, .int .i64 now] w fun e w' => e = .returned (.int .i64 79) ∧ BookSt w0 w' b mu mf tries wait nu (nf + 1) Du (Df.put (.string name.data.toList) (failD (c + 1) now)) := by
  have d1 : decide ((text.size : Int) > 64) = false := by simp; omega
  have C := Lib.hid (st_wrong name old now p q tt i c t h hn ho h0 hU hatU hatF hps hq hc hcr hnf)
  clear hU hatU hatF hq hcr
  go_enter Tryz.func11, Tryz.ntmps11
  go_wp2_with (go_at_call 9; refine C.out.mono ?_; rintro e w1 ⟨rfl, h1⟩)
  go_ret
  exact ⟨rfl, h1⟩
set_option maxRecDepth 100000 in
set_option maxHeartbeats 1000000 in
theorem change_right (name old text : ByteArray) (now : Int) (p q : ByteArray) (tt i c t : Int) (h : BookSt w0 w b mu mf tries wait nu nf Du Df)
    (hn : name.size ≤ maxLen) (ho : old.size ≤ 64) (ht : text.size ≤ 64) (h0 : 0 ≤ now) (hU : Maps.has Du (.string name.data.toList) = true) (hatU : Du.atKey (.string name.data.toList) noU = entD p tt q i) (hatF : Df.atKey (.string name.data.toList) noF = failD c t) (hps : p.size ≤ 16) (hq : hashOf p old tt = q) (hc : c < tries) (hnu : nu < 1000000) :
    Calls Tryz.prog 11 #[.pointer (some ⟨b, 0, none⟩), .string name, .string old, .string text, .int .i64 now] w fun e w' => e = .returned (.int .i64 0) ∧ BookSt w0 w' b mu mf tries wait (nu + 1) nf (Du.put (.string name.data.toList) (entD p tt (hashOf p text tt) i)) (Df.del (.string name.data.toList)) := by
  have d1 : decide ((text.size : Int) > 64) = false := by simp; omega
  have C := Lib.hid (st_right name old now p q tt i c t h hn ho h0 hU hatU hatF hps hq hc)
  have HAT := Lib.hid hatU
  clear hU hatU hatF hq
  go_enter Tryz.func11, Tryz.ntmps11
  go_upto_region 6 with (go_at_call 9; refine C.out.mono ?_; rintro e w1 ⟨rfl, h1⟩)
  have c2 : w1.cell? ⟨b, 2, none⟩ = some (.map (some mu)) := by rw [cell_of_row w1 b 2 _ 47 (0, 0) h1.at_]; rfl
  have hlt : b < w1.heap.size := (Array.getElem?_eq_some_iff.1 h1.at_).1
  have hmu := h1.hu.lt
  obtain ⟨v, ps, hrun, hv⟩ := h1.hu.lookup law9 und59 (zero64 w1) (zd := noU) (zp := []) rfl (WideMaps.keyOf_string_mk und9 hn)
  obtain ⟨sa, t2, ha, m, rfl, hz⟩ := readU_inv hv
  have hat := congrArg Prod.fst hz
  simp only [HAT.out] at hat
  obtain ⟨rfl, rfl, rfl, rfl⟩ := entD_inj hat
  clear hz hat hv
  go_upto_region 7 with (fail)
  obtain ⟨W2, hW2⟩ : ∃ W2, W2 = w1.alloc (.cells #[.string p, .int .i64 tt, .string q, .int .i64 i] 53) := ⟨_, rfl⟩
  rw [← hW2]
  have hB2 : Below w1.heap.size w1 W2 := by rw [hW2]; exact (Below.refl _ _).alloc (Nat.le_refl _) _
  have hr2 : W2.heap[w1.heap.size]? = some (.cells #[.string p, .int .i64 tt, .string q, .int .i64 i] 53 (0, 0)) := by rw [hW2]; exact heap_alloc_new w1 _
  have hl2 : w1.heap.size < W2.heap.size := (Array.getElem?_eq_some_iff.1 hr2).1
  have x0 : W2.cell? ⟨w1.heap.size, 0, none⟩ = some (.string p) := by rw [cell_of_row W2 _ 0 _ 53 (0, 0) hr2]; rfl
  have x1 : W2.cell? ⟨w1.heap.size, 1, none⟩ = some (.int .i64 tt) := by rw [cell_of_row W2 _ 1 _ 53 (0, 0) hr2]; rfl
  have x2 : W2.cell? ⟨w1.heap.size, 2, none⟩ = some (.string q) := by rw [cell_of_row W2 _ 2 _ 53 (0, 0) hr2]; rfl
  clear hW2 hrun c2
  go_upto_region 8 with (go_at_call 17; refine (stretch_any p text tt _ (by omega)).mono ?_; rintro e w3 ⟨rfl, hb3⟩; have hr3 : w3.heap[w1.heap.size]? = some (.cells #[.string p, .int .i64 tt, .string q, .int .i64 i] 53 (0, 0)) := (hb3.block _ hl2).trans hr2; have z2 : w3.cell? ⟨w1.heap.size, 2, none⟩ = some (.string q) := (cell_of_row w3 _ 2 _ 53 (0, 0) hr3).trans rfl; have zf : w3.frozen? ⟨w1.heap.size, 2, none⟩ = false := frozen_of_row w3 _ 2 _ 53 hr3)
  obtain ⟨W4, hW4⟩ : ∃ W4, W4 = w3.setCell ⟨w1.heap.size, 2, none⟩ (.string (hashOf p text tt)) := ⟨_, rfl⟩
  unfold hashOf at hW4
  rw [← hW4]
  have hr4 : W4.heap[w1.heap.size]? = some (.cells #[.string p, .int .i64 tt, .string (hashOf p text tt), .int .i64 i] 53 (0, 0)) := by rw [hW4, heap_setCell_same w3 w1.heap.size 2 _ 53 _ hr3]; rfl
  have hB3 : Below w1.heap.size w1 w3 := hB2.trans ((⟨hb3.os, hb3.tape, hb3.output, hb3.size, hb3.block⟩ : Below W2.heap.size W2 w3).mono hB2.size)
  have hB4 : Below w1.heap.size w1 W4 := by rw [hW4]; exact hB3.setCell (p := ⟨w1.heap.size, 2, none⟩) (Nat.le_refl _) _
  have h4 := h1.keep hB4
  have c2 : W4.cell? ⟨b, 2, none⟩ = some (.map (some mu)) := by rw [cell_of_row W4 b 2 _ 47 (0, 0) h4.at_]; rfl
  have z0 : W4.cell? ⟨w1.heap.size, 0, none⟩ = some (.string p) := (cell_of_row W4 _ 0 _ 53 (0, 0) hr4).trans rfl
  have z1 : W4.cell? ⟨w1.heap.size, 1, none⟩ = some (.int .i64 tt) := (cell_of_row W4 _ 1 _ 53 (0, 0) hr4).trans rfl
  have z2' : W4.cell? ⟨w1.heap.size, 2, none⟩ = some (.string (hashOf p text tt)) := (cell_of_row W4 _ 2 _ 53 (0, 0) hr4).trans rfl
  have z3 : W4.cell? ⟨w1.heap.size, 3, none⟩ = some (.int .i64 i) := (cell_of_row W4 _ 3 _ 53 (0, 0) hr4).trans rfl
  obtain ⟨HH, hHH⟩ : ∃ x, x = hashOf p text tt := ⟨_, rfl⟩
  rw [← hHH] at z2'
  have H2 := Lib.hid hHH
  clear hHH hW4 hr4 hr3 z2 zf hB3
  go_wp2
  refine wp_region_quiet_sink 6 (by kernel_rfl) (by kernel_rfl) (by kernel_rfl) ?_
  simp only [List.take_succ_cons, List.take_zero, List.drop_succ_cons, List.drop_zero]
  repeat (go_big_quiet_step (fail))
  refine wpQuiet_nil ?_
  rintro _ ⟨nq, rfl⟩
  have h5 := h4.keep (⟨rfl, rfl, rfl, Nat.le_refl _, fun _ _ => rfl⟩ : Below W4.heap.size W4 (W4.drewN nq))
  obtain ⟨w9, hrun, hown9, hg9⟩ := h5.hu.update law9 und59 (by unfold maxLen; omega) (WideMaps.keyOf_string_mk und9 hn) (show readU (.agg #[.string p, .int .i64 tt, .string HH, .int .i64 i]) = some (entD p tt HH i, []) from rfl)
  go_wp2
  go_ret
  rw [← H2.out]
  exact ⟨rfl, h5.grownU hown9 hg9⟩
end
end Go.Proofs.YtkgbldkjpohinaaGreatDoor
