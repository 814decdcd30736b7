/- (*Book).Try: locked, free again, the wrong text, a stranger. -/
import Derived.Test.YtkgbldkjpohinaaGreatDoorBookTry
import Derived.Test.YtkgbldkjpohinaaGreatDoorTail2
namespace Go.Proofs.YtkgbldkjpohinaaGreatDoor
open Go.RowKit Go.Maps
open Go.WideMaps (keyOf_string_mk)
theorem beq_false_of {a b : ByteArray} (h : a ≠ b) : (a.toList == b.toList) = false := by
  rw [beq_eq_false_iff_ne]; intro e; apply h; rw [ByteArray.toList_eq, ByteArray.toList_eq] at e; cases a; cases b; simpa [Array.toList_inj] using e
/-- What the two lookups of Try leave: the pair of the user's and of the failure's blocks. -/
structure TryW (w W : World) (b mu mf nu nf : Nat) (Du Df : DataW Unit) (tries wait : Int) (p q : ByteArray) (tt i c t : Int) : Prop where
  below : Below w.heap.size w W
  size : W.heap.size = w.heap.size + 2
  u0 : W.cell? ⟨w.heap.size, 0, none⟩ = some (.string p)
  u1 : W.cell? ⟨w.heap.size, 1, none⟩ = some (.int .i64 tt)
  u2 : W.cell? ⟨w.heap.size, 2, none⟩ = some (.string q)
  u3 : W.cell? ⟨w.heap.size, 3, none⟩ = some (.int .i64 i)
  f0 : W.cell? ⟨w.heap.size + 1, 0, none⟩ = some (.int .i64 c)
  f1 : W.cell? ⟨w.heap.size + 1, 1, none⟩ = some (.int .i64 t)
  ff : W.frozen? ⟨w.heap.size + 1, 0, none⟩ = false
  b0 : W.cell? ⟨b, 0, none⟩ = some (.int .i64 tries)
  b1 : W.cell? ⟨b, 1, none⟩ = some (.int .i64 wait)
  b3 : W.cell? ⟨b, 3, none⟩ = some (.map (some mf))
  book : BookAt W b tries wait mu mf
  hu : W.ownsMap Tryz.prog 9 readU mu nu Du
  hf : W.ownsMap Tryz.prog 9 readF mf nf Df
theorem tryW (b mu mf nu nf : Nat) (Du Df : DataW Unit) (tries wait : Int) (p q : ByteArray) (tt i c t : Int) (w : World) (hB : BookAt w b tries wait mu mf) (hu : w.ownsMap Tryz.prog 9 readU mu nu Du) (hf : w.ownsMap Tryz.prog 9 readF mf nf Df) :
    TryW w ((w.alloc (Obj.cells #[.string p, .int .i64 tt, .string q, .int .i64 i] 53)).alloc (Obj.cells #[.int .i64 c, .int .i64 t] 63)) b mu mf nu nf Du Df tries wait p q tt i c t := by
  have hlt : b < w.heap.size := (Array.getElem?_eq_some_iff.1 hB).1
  obtain ⟨W, hW⟩ : ∃ W, W = ((w.alloc (Obj.cells #[.string p, .int .i64 tt, .string q, .int .i64 i] 53)).alloc (Obj.cells #[.int .i64 c, .int .i64 t] 63)) := ⟨_, rfl⟩
  rw [← hW]
  have e1 : (w.alloc (Obj.cells #[.string p, .int .i64 tt, .string q, .int .i64 i] 53)).heap.size = w.heap.size + 1 := by simp
  have hWb : Below w.heap.size w W := by rw [hW]; exact ((Below.refl _ _).alloc (Nat.le_refl _) _).alloc (by simp) _
  have hWs : W.heap.size = w.heap.size + 2 := by rw [hW]; simp
  have hF : W.heap[w.heap.size + 1]? = some (.cells #[.int .i64 c, .int .i64 t] 63 (0, 0)) := by rw [hW, ← e1]; exact heap_alloc_new _ _
  have hU2 : W.heap[w.heap.size]? = some (.cells #[.string p, .int .i64 tt, .string q, .int .i64 i] 53 (0, 0)) := by rw [hW, Go.RowKit.Below.heap_alloc _ _ _ (by simp)]; exact heap_alloc_new _ _
  have hB2 : BookAt W b tries wait mu mf := by unfold BookAt; rw [← hB]; exact hWb.block b hlt
  exact ⟨hWb, hWs, by rw [cell_of_row W _ 0 _ 53 (0, 0) hU2]; rfl, by rw [cell_of_row W _ 1 _ 53 (0, 0) hU2]; rfl, by rw [cell_of_row W _ 2 _ 53 (0, 0) hU2]; rfl, by rw [cell_of_row W _ 3 _ 53 (0, 0) hU2]; rfl,
    by rw [cell_of_row W _ 0 _ 63 (0, 0) hF]; rfl, by rw [cell_of_row W _ 1 _ 63 (0, 0) hF]; rfl, frozen_of_row W _ 0 _ 63 hF,
    by rw [cell_of_row W b 0 _ 47 (0, 0) hB2]; rfl, by rw [cell_of_row W b 1 _ 47 (0, 0) hB2]; rfl, by rw [cell_of_row W b 3 _ 47 (0, 0) hB2]; rfl, hB2, ownsMap_below hu hWb hu.lt, ownsMap_below hf hWb hf.lt⟩
set_option maxRecDepth 100000 in
set_option maxHeartbeats 1000000 in
theorem try_locked (b mu mf nu nf : Nat) (Du Df : DataW Unit) (tries wait : Int) (name text : ByteArray) (now : Int) (p q : ByteArray) (tt i c t : Int) (w : World) (hB : BookAt w b tries wait mu mf) (hu : w.ownsMap Tryz.prog 9 readU mu nu Du) (hf : w.ownsMap Tryz.prog 9 readF mf nf Df)
    (hn : name.size ≤ maxLen) (ht : text.size ≤ 64) (h0 : 0 ≤ now) (hatU : Du.atKey (.string name.data.toList) noU = entD p tt q i) (hatF : Df.atKey (.string name.data.toList) noF = failD c t) (hc : tries ≤ c) (hw : now - t < wait) (hr1 : -9223372036854775808 ≤ now - t) (hr2 : now - t ≤ 9223372036854775807) :
    Calls Tryz.prog 9 #[.pointer (some ⟨b, 0, none⟩), .string name, .string text, .int .i64 now] w fun e w' => e = .returned (.tuple #[.int .i64 0, .int .i64 80]) ∧ Below w.heap.size w w' := by
  have c0 : w.cell? ⟨b, 0, none⟩ = some (.int .i64 tries) := by rw [cell_of_row w b 0 _ 47 (0, 0) hB]; rfl
  have c2 : w.cell? ⟨b, 2, none⟩ = some (.map (some mu)) := by rw [cell_of_row w b 2 _ 47 (0, 0) hB]; rfl
  have c3 : w.cell? ⟨b, 3, none⟩ = some (.map (some mf)) := by rw [cell_of_row w b 3 _ 47 (0, 0) hB]; rfl
  have hlt : b < w.heap.size := (Array.getElem?_eq_some_iff.1 hB).1
  have d1 : decide ((text.size : Int) > 64) = false := by simp; omega
  have d2 : decide (now < 0) = false := by simp; omega
  have d3 : decide (c ≥ tries) = true := by simp; omega
  have d4 : decide (now - t < wait) = true := by simp; omega
  go_enter Tryz.func9, Tryz.ntmps9
  go_wp2_with (first
    | (at_lookup; refine wpList_lookup_user _ rfl _ _ rfl mu nu Du rfl hu name rfl hn ?_; intro p0 t0 q0 i0' hat0; obtain ⟨rfl, rfl, rfl, rfl⟩ := entD_inj (hatU.symm.trans hat0))
    | (at_lookup; refine wpList_lookup_fail _ rfl _ _ rfl mf nf Df rfl (hf.alloc _) name rfl hn ?_; intro c0' t0' hat1; obtain ⟨rfl, rfl⟩ := failD_inj (hatF.symm.trans hat1)))
  have T := tryW b mu mf nu nf Du Df tries wait p q tt i c t w hB hu hf
  have hmfl := hf.lt
  obtain ⟨W, hW⟩ : ∃ W, W = ((w.alloc (Obj.cells #[.string p, .int .i64 tt, .string q, .int .i64 i] 53)).alloc (Obj.cells #[.int .i64 c, .int .i64 t] 63)) := ⟨_, rfl⟩
  rw [← hW] at T ⊢
  have ⟨hWb, hWs, u0, u1, u2, u3, f0, f1, ff, b0, b1, b3, hBW, huW, hfW⟩ := T
  clear hW T c0 c2 c3 hB hBW
  have v0 : ∀ n, (W.drewN n).cell? ⟨b, 1, none⟩ = some (.int .i64 wait) := fun _ => b1
  have v1 : ∀ n, (W.drewN n).cell? ⟨w.heap.size + 1, 1, none⟩ = some (.int .i64 t) := fun _ => f1
  go_quiet (fail)
  go_wp2
  go_quiet (fail)
  go_wp2
  go_ret2
  exact ⟨rfl, hWb.os, hWb.tape, hWb.output, hWb.size, hWb.block⟩
set_option maxRecDepth 100000 in
set_option maxHeartbeats 1000000 in
theorem try_free (b mu mf nu nf : Nat) (Du Df : DataW Unit) (tries wait : Int) (name text : ByteArray) (now : Int) (p q : ByteArray) (tt i c t : Int) (w : World) (hB : BookAt w b tries wait mu mf) (hu : w.ownsMap Tryz.prog 9 readU mu nu Du) (hf : w.ownsMap Tryz.prog 9 readF mf nf Df)
    (hn : name.size ≤ maxLen) (ht : text.size ≤ 64) (h0 : 0 ≤ now) (hU : Maps.has Du (.string name.data.toList) = true) (hatU : Du.atKey (.string name.data.toList) noU = entD p tt q i) (hatF : Df.atKey (.string name.data.toList) noF = failD c t) (hps : p.size ≤ 16) (hq : hashOf p text tt = q) (hc : tries ≤ c) (hw : wait ≤ now - t) (hr1 : -9223372036854775808 ≤ now - t) (hr2 : now - t ≤ 9223372036854775807) :
    Calls Tryz.prog 9 #[.pointer (some ⟨b, 0, none⟩), .string name, .string text, .int .i64 now] w fun e w' => e = .returned (.tuple #[.int .i64 i, .int .i64 0]) ∧ w'.ownsMap Tryz.prog 9 readF mf nf (Df.del (.string name.data.toList)) ∧ w.grownBy w' (some mf) := by
  have c0 : w.cell? ⟨b, 0, none⟩ = some (.int .i64 tries) := by rw [cell_of_row w b 0 _ 47 (0, 0) hB]; rfl
  have c2 : w.cell? ⟨b, 2, none⟩ = some (.map (some mu)) := by rw [cell_of_row w b 2 _ 47 (0, 0) hB]; rfl
  have c3 : w.cell? ⟨b, 3, none⟩ = some (.map (some mf)) := by rw [cell_of_row w b 3 _ 47 (0, 0) hB]; rfl
  have hlt : b < w.heap.size := (Array.getElem?_eq_some_iff.1 hB).1
  have d1 : decide ((text.size : Int) > 64) = false := by simp; omega
  have d2 : decide (now < 0) = false := by simp; omega
  have d3 : decide (c ≥ tries) = true := by simp; omega
  have d4 : decide (now - t < wait) = false := by simp; omega
  go_enter Tryz.func9, Tryz.ntmps9
  go_wp2_with (first
    | (at_lookup; refine wpList_lookup_user _ rfl _ _ rfl mu nu Du rfl hu name rfl hn ?_; intro p0 t0 q0 i0' hat0; obtain ⟨rfl, rfl, rfl, rfl⟩ := entD_inj (hatU.symm.trans hat0))
    | (at_lookup; refine wpList_lookup_fail _ rfl _ _ rfl mf nf Df rfl (hf.alloc _) name rfl hn ?_; intro c0' t0' hat1; obtain ⟨rfl, rfl⟩ := failD_inj (hatF.symm.trans hat1)))
  have T := tryW b mu mf nu nf Du Df tries wait p q tt i c t w hB hu hf
  have hmfl := hf.lt
  obtain ⟨W, hW⟩ : ∃ W, W = ((w.alloc (Obj.cells #[.string p, .int .i64 tt, .string q, .int .i64 i] 53)).alloc (Obj.cells #[.int .i64 c, .int .i64 t] 63)) := ⟨_, rfl⟩
  rw [← hW] at T ⊢
  have ⟨hWb, hWs, u0, u1, u2, u3, f0, f1, ff, b0, b1, b3, hBW, huW, hfW⟩ := T
  clear hW T c0 c2 c3 hB hBW
  have v0 : ∀ n, (W.drewN n).cell? ⟨b, 1, none⟩ = some (.int .i64 wait) := fun _ => b1
  have v1 : ∀ n, (W.drewN n).cell? ⟨w.heap.size + 1, 1, none⟩ = some (.int .i64 t) := fun _ => f1
  go_quiet (fail)
  go_wp2
  go_quiet (fail)
  go_wp2
  generalize hV : World.setCell _ { block := w.heap.size + 1, off := 0 } (Value.int IntKind.i64 0) = V
  have hV2 : Below (w.heap.size + 1) W V := by
    rw [← hV]
    exact ((⟨rfl, rfl, rfl, Nat.le_refl _, fun _ _ => rfl⟩ : Below W.heap.size W (W.drewN _)).mono (by omega)).setCell (by simp) _
  clear hV v0 v1
  have v0 : ∀ n, (V.drewN n).drew.cell? ⟨w.heap.size, 0, none⟩ = some (.string p) := fun _ => (hV2.cell (p := ⟨w.heap.size, 0, none⟩) (by simp)).trans u0
  have v1 : ∀ n, (V.drewN n).drew.cell? ⟨w.heap.size, 1, none⟩ = some (.int .i64 tt) := fun _ => (hV2.cell (p := ⟨w.heap.size, 1, none⟩) (by simp)).trans u1
  have v2 : ∀ n, (V.drewN n).drew.cell? ⟨w.heap.size, 2, none⟩ = some (.string q) := fun _ => (hV2.cell (p := ⟨w.heap.size, 2, none⟩) (by simp)).trans u2
  have w0 : V.cell? ⟨w.heap.size, 0, none⟩ = some (.string p) := v0 0
  have w1 : V.cell? ⟨w.heap.size, 1, none⟩ = some (.int .i64 tt) := v1 0
  have w2 : V.cell? ⟨w.heap.size, 2, none⟩ = some (.string q) := v2 0
  have w3 : V.cell? ⟨w.heap.size, 3, none⟩ = some (.int .i64 i) := (hV2.cell (p := ⟨w.heap.size, 3, none⟩) (by simp)).trans u3
  have b3V : V.cell? ⟨b, 3, none⟩ = some (.map (some mf)) := (hV2.cell (p := ⟨b, 3, none⟩) (by simp; omega)).trans b3
  have hfV := ownsMap_below hfW hV2 (by omega)
  have hVs := hV2.size
  have hVb : Below w.heap.size w V := hWb.trans (hV2.mono (by omega))
  have hq' : strOfNums (hexL (stretchL (bytesOf p) (bytesOf text) (min (max tt 0) 1000).toNat)) = q := hq
  have Hq := Lib.hid hq'
  clear hq hq'
  go_region_with (go_at_call 17; refine (stretch_any p text tt _ (by omega)).mono ?_; rintro e w4 ⟨rfl, hb3⟩; have hW3 : Below V.heap.size V w4 := ⟨hb3.os, hb3.tape, hb3.output, hb3.size, hb3.block⟩; have u2' : w4.cell? ⟨w.heap.size, 2, none⟩ = some (.string q) := (hW3.cell (p := ⟨w.heap.size, 2, none⟩) (by simp; omega)).trans w2; rw [Hq.out])
  all_goals
    have b3' : w4.cell? ⟨b, 3, none⟩ = some (.map (some mf)) := (hW3.cell (p := ⟨b, 3, none⟩) (by simp; omega)).trans b3V
    have u3' : w4.cell? ⟨w.heap.size, 3, none⟩ = some (.int .i64 i) := (hW3.cell (p := ⟨w.heap.size, 3, none⟩) (by simp; omega)).trans w3
    have hf3 := ownsMap_below hfV hW3 hfV.lt
    have hl3 := hW3.size
    have hw3 : Below w.heap.size w w4 := hVb.trans (hW3.mono (by omega))
    go_wp2_with (at_delete; refine wpList_delete_own _ rfl _ _ 45 9 rfl 63 law9 und60 readF mf nf Df rfl hf3 _ _ rfl (keyOf_string_mk und9 hn) ?_; intro w5 hown4 hturn4; have u4 : w5.cell? ⟨w.heap.size, 3, none⟩ = some (.int .i64 i) := (World.cell?_of_block (w := w4) (hturn4.grown.block w.heap.size (by omega) (by simp; omega))).trans u3')
    go_ret2
    exact ⟨rfl, hown4, (grown_below hw3 (some mf)).trans hturn4.grown⟩
set_option maxRecDepth 100000 in
set_option maxHeartbeats 1000000 in
theorem try_wrong (b mu mf nu nf : Nat) (Du Df : DataW Unit) (tries wait : Int) (name text : ByteArray) (now : Int) (p q : ByteArray) (tt i c t : Int) (w : World) (hB : BookAt w b tries wait mu mf) (hu : w.ownsMap Tryz.prog 9 readU mu nu Du) (hf : w.ownsMap Tryz.prog 9 readF mf nf Df)
    (hn : name.size ≤ maxLen) (ht : text.size ≤ 64) (h0 : 0 ≤ now) (hU : Maps.has Du (.string name.data.toList) = true) (hatU : Du.atKey (.string name.data.toList) noU = entD p tt q i) (hatF : Df.atKey (.string name.data.toList) noF = failD c t) (hps : p.size ≤ 16) (hq : hashOf p text tt ≠ q) (hc : c < tries) (hcr : 0 ≤ c ∧ c < 1000) (hnf : nf < 1000000) :
    Calls Tryz.prog 9 #[.pointer (some ⟨b, 0, none⟩), .string name, .string text, .int .i64 now] w fun e w' => e = .returned (.tuple #[.int .i64 0, .int .i64 79]) ∧ w'.ownsMap Tryz.prog 9 readF mf (nf + 1) (Df.put (.string name.data.toList) (failD (c + 1) now)) ∧ w.grownBy w' (some mf) := by
  have c0 : w.cell? ⟨b, 0, none⟩ = some (.int .i64 tries) := by rw [cell_of_row w b 0 _ 47 (0, 0) hB]; rfl
  have c2 : w.cell? ⟨b, 2, none⟩ = some (.map (some mu)) := by rw [cell_of_row w b 2 _ 47 (0, 0) hB]; rfl
  have c3 : w.cell? ⟨b, 3, none⟩ = some (.map (some mf)) := by rw [cell_of_row w b 3 _ 47 (0, 0) hB]; rfl
  have hlt : b < w.heap.size := (Array.getElem?_eq_some_iff.1 hB).1
  have d1 : decide ((text.size : Int) > 64) = false := by simp; omega
  have d2 : decide (now < 0) = false := by simp; omega
  have d3 : decide (c ≥ tries) = false := by simp; omega
  go_enter Tryz.func9, Tryz.ntmps9
  go_wp2_with (first
    | (at_lookup; refine wpList_lookup_user _ rfl _ _ rfl mu nu Du rfl hu name rfl hn ?_; intro p0 t0 q0 i0' hat0; obtain ⟨rfl, rfl, rfl, rfl⟩ := entD_inj (hatU.symm.trans hat0))
    | (at_lookup; refine wpList_lookup_fail _ rfl _ _ rfl mf nf Df rfl (hf.alloc _) name rfl hn ?_; intro c0' t0' hat1; obtain ⟨rfl, rfl⟩ := failD_inj (hatF.symm.trans hat1)))
  have T := tryW b mu mf nu nf Du Df tries wait p q tt i c t w hB hu hf
  have hmfl := hf.lt
  obtain ⟨W, hW⟩ : ∃ W, W = ((w.alloc (Obj.cells #[.string p, .int .i64 tt, .string q, .int .i64 i] 53)).alloc (Obj.cells #[.int .i64 c, .int .i64 t] 63)) := ⟨_, rfl⟩
  rw [← hW] at T ⊢
  have ⟨hWb, hWs, u0, u1, u2, u3, f0, f1, ff, b0, b1, b3, hBW, huW, hfW⟩ := T
  clear hW T c0 c2 c3 hB hBW
  obtain ⟨hh, hhe⟩ : ∃ hh, hh = strOfNums (hexL (stretchL (bytesOf p) (bytesOf text) (min (max tt 0) 1000).toNat)) := ⟨_, rfl⟩
  have hq' : (hh.toList == q.toList) = false := beq_false_of (by rw [hhe]; exact hq)
  have Hq := Lib.hid hhe
  clear hq hhe
  go_quiet (fail)
  go_wp2
  have v0 : ∀ n, (W.drewN n).drew.cell? ⟨w.heap.size, 0, none⟩ = some (.string p) := fun _ => u0
  have v1 : ∀ n, (W.drewN n).drew.cell? ⟨w.heap.size, 1, none⟩ = some (.int .i64 tt) := fun _ => u1
  have v2 : ∀ n, (W.drewN n).drew.cell? ⟨w.heap.size, 2, none⟩ = some (.string q) := fun _ => u2
  go_region_with (go_at_call 17; refine (stretch_any p text tt _ (by omega)).mono ?_; rintro e w3 ⟨rfl, hb3⟩; have hW3 : Below W.heap.size W w3 := ⟨hb3.os, hb3.tape, hb3.output, hb3.size, hb3.block⟩; have u2' : w3.cell? ⟨w.heap.size, 2, none⟩ = some (.string q) := (hW3.cell (p := ⟨w.heap.size, 2, none⟩) (by simp; omega)).trans u2; rw [← Hq.out])
  all_goals
    have b3' : w3.cell? ⟨b, 3, none⟩ = some (.map (some mf)) := (hW3.cell (p := ⟨b, 3, none⟩) (by simp; omega)).trans b3
    have f0' : w3.cell? ⟨w.heap.size + 1, 0, none⟩ = some (.int .i64 c) := (hW3.cell (p := ⟨w.heap.size + 1, 0, none⟩) (by simp; omega)).trans f0
    have hf3 := ownsMap_below hfW hW3 hfW.lt
    have hl3 := hW3.size
    have hw3 : Below w.heap.size w w3 := hWb.trans (hW3.mono (by omega))
    go_wp2
    refine wp_region_quiet_sink 10 (by kernel_rfl) (by kernel_rfl) (by kernel_rfl) ?_
    simp only [List.take_succ_cons, List.take_zero, List.drop_succ_cons, List.drop_zero]
    repeat (go_big_quiet_step (fail))
    refine wpQuiet_nil ?_
    rintro _ ⟨nq, rfl⟩
    have hf4 : (w3.drewN nq).ownsMap Tryz.prog 9 readF mf nf Df := ownsMap_below hf3 (⟨rfl, rfl, rfl, Nat.le_refl _, fun _ _ => rfl⟩ : Below w3.heap.size w3 (w3.drewN nq)) hf3.lt
    obtain ⟨w9, hrun, hown9, hg9⟩ := hf4.update law9 und60 (by unfold maxLen; omega) (keyOf_string_mk und9 hn) (show readF (.agg #[.int .i64 (c + 1), .int .i64 now]) = some (failD (c + 1) now, []) from rfl)
    go_wp2
    go_ret2
    exact ⟨rfl, hown9, (grown_below (⟨hw3.os, hw3.tape, hw3.output, hw3.size, hw3.block⟩ : Below w.heap.size w (w3.drewN nq)) (some mf)).trans hg9⟩
set_option maxRecDepth 100000 in
set_option maxHeartbeats 1000000 in
theorem try_none (b mu mf nu nf : Nat) (Du Df : DataW Unit) (tries wait : Int) (name text : ByteArray) (now : Int) (p q : ByteArray) (tt i c t : Int) (w : World) (hB : BookAt w b tries wait mu mf) (hu : w.ownsMap Tryz.prog 9 readU mu nu Du) (hf : w.ownsMap Tryz.prog 9 readF mf nf Df)
    (hn : name.size ≤ maxLen) (ht : text.size ≤ 64) (h0 : 0 ≤ now) (hU : Maps.has Du (.string name.data.toList) = false) (hF : Maps.has Df (.string name.data.toList) = false) (hatU : Du.atKey (.string name.data.toList) noU = entD p tt q i) (hatF : Df.atKey (.string name.data.toList) noF = failD c t) (hc : c < tries) (hcr : 0 ≤ c ∧ c < 1000) (hnf : nf < 1000000) (hsz : Maps.size Df < 9) :
    Calls Tryz.prog 9 #[.pointer (some ⟨b, 0, none⟩), .string name, .string text, .int .i64 now] w fun e w' => e = .returned (.tuple #[.int .i64 0, .int .i64 79]) ∧ w'.ownsMap Tryz.prog 9 readF mf (nf + 1) (Df.put (.string name.data.toList) (failD (c + 1) now)) ∧ w.grownBy w' (some mf) := by
  have c0 : w.cell? ⟨b, 0, none⟩ = some (.int .i64 tries) := by rw [cell_of_row w b 0 _ 47 (0, 0) hB]; rfl
  have c2 : w.cell? ⟨b, 2, none⟩ = some (.map (some mu)) := by rw [cell_of_row w b 2 _ 47 (0, 0) hB]; rfl
  have c3 : w.cell? ⟨b, 3, none⟩ = some (.map (some mf)) := by rw [cell_of_row w b 3 _ 47 (0, 0) hB]; rfl
  have hlt : b < w.heap.size := (Array.getElem?_eq_some_iff.1 hB).1
  have d1 : decide ((text.size : Int) > 64) = false := by simp; omega
  have d2 : decide (now < 0) = false := by simp; omega
  have d3 : decide (c ≥ tries) = false := by simp; omega
  go_enter Tryz.func9, Tryz.ntmps9
  go_wp2_with (first
    | (at_lookup; refine wpList_lookup_user _ rfl _ _ rfl mu nu Du rfl hu name rfl hn ?_; intro p0 t0 q0 i0' hat0; obtain ⟨rfl, rfl, rfl, rfl⟩ := entD_inj (hatU.symm.trans hat0))
    | (at_lookup; refine wpList_lookup_fail _ rfl _ _ rfl mf nf Df rfl (hf.alloc _) name rfl hn ?_; intro c0' t0' hat1; obtain ⟨rfl, rfl⟩ := failD_inj (hatF.symm.trans hat1)))
  have T := tryW b mu mf nu nf Du Df tries wait p q tt i c t w hB hu hf
  have hmfl := hf.lt
  obtain ⟨W, hW⟩ : ∃ W, W = ((w.alloc (Obj.cells #[.string p, .int .i64 tt, .string q, .int .i64 i] 53)).alloc (Obj.cells #[.int .i64 c, .int .i64 t] 63)) := ⟨_, rfl⟩
  rw [← hW] at T ⊢
  have ⟨hWb, hWs, u0, u1, u2, u3, f0, f1, ff, b0, b1, b3, hBW, huW, hfW⟩ := T
  clear hW T c0 c2 c3 hB
  go_quiet (fail)
  go_wp2
  first | go_quiet (fail) | skip
  generalize hV : (W.drewN _).drewN _ = V
  have hV2 : Below W.heap.size W V := by
    rw [← hV]
    exact ⟨rfl, rfl, rfl, Nat.le_refl _, fun _ _ => rfl⟩
  clear hV
  have hBV : BookAt V b tries wait mu mf := by unfold BookAt; rw [← hBW]; exact hV2.block b (by omega)
  have huV := ownsMap_below huW hV2 huW.lt
  have hfV := ownsMap_below hfW hV2 hfW.lt
  have b3V : V.cell? ⟨b, 3, none⟩ = some (.map (some mf)) := (hV2.cell (p := ⟨b, 3, none⟩) (by simp; omega)).trans b3
  have f0V : V.cell? ⟨w.heap.size + 1, 0, none⟩ = some (.int .i64 c) := (hV2.cell (p := ⟨w.heap.size + 1, 0, none⟩) (by simp; omega)).trans f0
  have hVs := hV2.size
  have hVb : Below w.heap.size w V := hWb.trans (hV2.mono (by omega))
  clear hBW hV2
  go_wp2_with (go_at_call 22; refine (strangers_any b mu mf nu nf Du Df tries wait _ hBV huV hfV (by omega)).mono ?_; rintro e w3 ⟨k, rfl, hk, hW3⟩; have hk9 : decide ((k : Int) < 9) = true := (by simp; omega))
  have b3' : w3.cell? ⟨b, 3, none⟩ = some (.map (some mf)) := (hW3.cell (p := ⟨b, 3, none⟩) (by simp; omega)).trans b3V
  have f0' : w3.cell? ⟨w.heap.size + 1, 0, none⟩ = some (.int .i64 c) := (hW3.cell (p := ⟨w.heap.size + 1, 0, none⟩) (by simp; omega)).trans f0V
  have hf3 := ownsMap_below hfV hW3 hfV.lt
  have hl3 := hW3.size
  have hw3 : Below w.heap.size w w3 := hVb.trans (hW3.mono (by omega))
  refine wp_region_quiet_sink 10 (by kernel_rfl) (by kernel_rfl) (by kernel_rfl) ?_
  simp only [List.take_succ_cons, List.take_zero, List.drop_succ_cons, List.drop_zero]
  repeat (go_big_quiet_step (fail))
  refine wpQuiet_nil ?_
  rintro _ ⟨nq, rfl⟩
  have hf4 : (w3.drewN nq).ownsMap Tryz.prog 9 readF mf nf Df := ownsMap_below hf3 (⟨rfl, rfl, rfl, Nat.le_refl _, fun _ _ => rfl⟩ : Below w3.heap.size w3 (w3.drewN nq)) hf3.lt
  obtain ⟨w9, hrun, hown9, hg9⟩ := hf4.update law9 und60 (by unfold maxLen; omega) (keyOf_string_mk und9 hn) (show readF (.agg #[.int .i64 (c + 1), .int .i64 now]) = some (failD (c + 1) now, []) from rfl)
  go_wp2
  go_ret2
  exact ⟨rfl, hown9, (grown_below (⟨hw3.os, hw3.tape, hw3.output, hw3.size, hw3.block⟩ : Below w.heap.size w (w3.drewN nq)) (some mf)).trans hg9⟩
end Go.Proofs.YtkgbldkjpohinaaGreatDoor
