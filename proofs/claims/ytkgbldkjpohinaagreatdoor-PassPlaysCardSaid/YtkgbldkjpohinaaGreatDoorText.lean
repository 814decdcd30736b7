/- The walk of (*Book).Text. -/
import Derived.Test.YtkgbldkjpohinaaGreatDoorTextL
import Derived.Test.YtkgbldkjpohinaaGreatDoorLat
namespace Go.Proofs.YtkgbldkjpohinaaGreatDoor
open Go.RowKit Go.Maps Go.Sort LatT
set_option linter.unusedVariables false
theorem row_str {w : World} {B : Nat} {v : Value} {ks : List (List UInt8)} (h : w.ownsRow B 9 1 v ks.length (ks.map encStr)) {i : Nat} (hi : i < ks.length) : ∃ g cap cur, v = .slice (some ⟨g, 0, none⟩) ks.length cap ∧ B ≤ g ∧ w.heap[g]? = some (.cells cur 9 (0, 0)) ∧ ks.length ≤ cap ∧ ∀ j (hj : j < ks.length), cur[j]? = some (.string ⟨ks[j].toArray⟩) := by
  obtain ⟨h0, ⟨e, e2⟩ | ⟨g, cap, cur, e1, e2, e3, h1, h2, h3, h4⟩⟩ := h
  · omega
  · refine ⟨g, cap, cur, e1, e2, e3, h1, fun j hj => ?_⟩
    have : (cur.toList.take (ks.length * 1))[j]? = (ks.map encStr)[j]? := by rw [h4]
    rw [List.getElem?_take_of_lt (by omega)] at this
    rw [← Array.getElem?_toList, this]
    simp [hj, encStr]
set_option maxRecDepth 100000 in
set_option maxHeartbeats 8000000 in
theorem text_any (b mu mf nu : Nat) (Du : DataW Unit) (tries wait : Int) (w : World) (hB : BookAt w b tries wait mu mf) (hown : w.ownsMap Tryz.prog 9 readU mu nu Du) (hmax : Maps.size Du ≤ 4000000)
    (hks : (keysOf Du).length ≤ 4000000) (hok : ∀ k ∈ keysOf Du, UserOk Du k) (hlen : (textL Du (keysOf Du)).length ≤ 140737488355328) (htab : Lib.TabIs Tryz.prog w "internal/strconv.uint64pow10" .u64 Lib.pow10Tab) :
    Calls Tryz.prog 14 #[.pointer (some ⟨b, 0, none⟩)] w fun e w' => e = .returned (.string (textOf Du)) ∧ Below w.heap.size w w' := by
  have c2 : w.cell? ⟨b, 2, none⟩ = some (.map (some mu)) := by rw [cell_of_row w b 2 _ 47 (0, 0) hB]; rfl
  have hlt : b < w.heap.size := (Array.getElem?_eq_some_iff.1 hB).1
  have hmu := hown.lt
  have kk := fun (w : World) (m : Option Nat) => (callsIn_wide (n := 5)).1 (Tryz.maps_Keys_30 m w)
  obtain ⟨W0, hW0⟩ : ∃ W0, W0 = w.alloc (.cells #[.pointer none, .slice none 0 0] 82) := ⟨_, rfl⟩
  have hal : Below w.heap.size w W0 := by rw [hW0]; exact (Below.refl _ _).alloc (Nat.le_refl _) _
  have hrow0 : W0.heap[w.heap.size]? = some (.cells #[.pointer none, .slice none 0 0] 82 (0, 0)) := by rw [hW0]; exact heap_alloc_new w _
  have hs0 : W0.heap.size = w.heap.size + 1 := by rw [hW0]; simp
  have hbl0 : Lib.IsBuilderF 82 5 w.heap.size w.heap.size (Lib.byteCells []) W0 := .inl ⟨Nat.le_refl _, _, hrow0, ⟨rfl, .inl ⟨rfl, rfl⟩⟩, by simp [Value.ownBlock]⟩
  have hown0 := ownsMap_below hown hal hmu
  have c20 : W0.cell? ⟨b, 2, none⟩ = some (.map (some mu)) := (hal.cell (p := ⟨b, 2, none⟩) hlt).trans c2
  have cS := sorted_keys mu nu Du W0 hown0 hmax
  have A1 : Hid (Below W0.heap.size W0 (W0.alloc (.cells #[.map (some mu)] 44))) := (Below.refl _ _).alloc (Nat.le_refl _) _
  have HAL := Lib.hid hal
  have HBL := Lib.hid hbl0
  have HOW := Lib.hid hown
  have HTB := Lib.hid htab
  rw [World.size_alloc, hs0] at cS
  clear hbl0 hown0 hown htab hal
  obtain ⟨ks, hks0⟩ : ∃ ks, ks = keysOf Du := ⟨_, rfl⟩
  rw [← hks0] at hks hok hlen cS
  have HKS := Lib.hid hks0
  have HOK := Lib.hid hok
  have HLN := Lib.hid hlen
  obtain ⟨nk, hnk⟩ : ∃ nk, nk = ks.length := ⟨_, rfl⟩
  have HNK := Lib.hid hnk
  have hnk1 : nk ≤ 4000000 := by omega
  rw [← hnk] at cS
  clear hks0 hok hlen hnk hks
  go_enter Tryz.func14, Tryz.ntmps14
  go_upto_region 2 with (fail)
  rw [← hW0]
  clear hW0
  have HK := Lib.hid kk
  have HS := Lib.hid cS
  clear kk cS
  go_wp2_with (first
    | (go_at_call 30; refine (HK.out _ _).mono ?_; rintro e w1 ⟨rfl, hw1⟩; rw [hw1])
    | (go_at_call 29; refine HS.out.mono ?_; rintro e w2 ⟨v2, rfl, hrow, hb2⟩; obtain ⟨ao, cap, rfl, _, _⟩ := owns_shape hrow))
  clear HK HS
  have hb02 : Below W0.heap.size W0 w2 := A1.out.trans (hb2.mono (by omega))
  have B2 := Lib.hid (HAL.out.trans (hb02.mono (by omega)))
  have L2 := Lib.hid (isbld_keep HBL.out hb02)
  have HRW := Lib.hid hrow
  clear hrow hb2 hb02 A1
  go_loopw [5, 6, 14] (fun _ _ vi wr => ∃ i : Nat, i ≤ nk ∧ vi = .int .i64 i ∧ Lib.IsBuilderF 82 5 w.heap.size w.heap.size (Lib.byteCells (textL Du (ks.take i))) wr ∧ Below w.heap.size w wr ∧ Lib.OthersKept 5 (some w.heap.size) w2 wr) (fun _ _ vi _ => nk - (intOf vi).toNat)
  case atStart => exact ⟨0, by omega, rfl, L2.out, B2.out, Lib.OthersKept.refl _ _ _⟩
  case round =>
    obtain ⟨i, hi, rfl, hL, hBr, hO⟩ := hrel
    have HL := Lib.hid hL
    have HBr := Lib.hid hBr
    have HO := Lib.hid hO
    clear hL hO
    by_cases hin : i < nk
    · have hin2 : i < ks.length := by have := HNK.out; omega
      obtain ⟨g, cap', cur, hv, hBg, hg2, hcap, hcur⟩ := row_str (by have := HRW.out; rw [HNK.out] at this; exact this) hin2
      obtain ⟨rfl, rfl⟩ : ao = some ⟨g, 0, none⟩ ∧ cap = cap' := by simpa using hv.symm.symm
      obtain ⟨key, hkey⟩ : ∃ k, k = ks[i] := ⟨_, rfl⟩
      have hkm : key ∈ ks := by rw [hkey]; exact List.getElem_mem hin2
      obtain ⟨hk16, hent⟩ := HOK.out key hkm
      obtain ⟨K, hK⟩ : ∃ K : ByteArray, K = ⟨key.toArray⟩ := ⟨_, rfl⟩
      have hK16 : K.size ≤ 16 := by rw [hK]; exact hk16
      have zk : wr.cell? ⟨g, i, none⟩ = some (.string K) := by
        have h1 := HO.out g _ hg2 (fun e => by simp at e; omega) (fun c fz e => by cases e)
        rw [cell_of_row wr g i _ 9 (0, 0) h1, hcur i hin2, hK, hkey]
      have c2r : wr.cell? ⟨b, 2, none⟩ = some (.map (some mu)) := (HBr.out.cell (p := ⟨b, 2, none⟩) hlt).trans c2
      obtain ⟨v, ps, hrun, hv⟩ := (ownsMap_below HOW.out HBr.out hmu).lookup law9 und59 (zero64 wr) (zd := noU) (zp := []) rfl (WideMaps.keyOf_string_mk und9 (show K.size ≤ maxLen by unfold maxLen; omega))
      obtain ⟨sa, t, ha, m, rfl, hz⟩ := readU_inv hv
      have hat : Du.atKey (.string key) noU = entD sa t ha m := by have := congrArg Prod.fst hz; rw [hK] at this; exact this
      obtain ⟨s16, h64, t0, t1, m0, m1⟩ := hent sa t ha m hat
      have hline : textL Du (ks.take (i + 1)) = textL Du (ks.take i) ++ (lineB K sa t ha m).data.toList := by
        rw [List.take_succ_eq_append_getElem hin2, textL_snoc, ← hkey, hat, lineOf_ent, hK]
      have hle1 := textL_take Du ks (i + 1)
      have hln := HLN.out
      have HLI := Lib.hid hline
      have hsz1 : (textL Du (ks.take i)).length + (lineB K sa t ha m).size ≤ 140737488355328 := by
        rw [hline, List.length_append] at hle1
        have : (lineB K sa t ha m).data.toList.length = (lineB K sa t ha m).size := by simp
        omega
      have HSZ := Lib.hid hsz1
      have hiT := itoa_len t0 (by omega : t ≤ 2147483647)
      have hiM := itoa_len (by omega : 0 ≤ m) m1
      have TR := Lib.hid (Joins.tab_stays gpow HTB.out HBr.out (Nat.le_refl _))
      have IT := fun W h => Lib.hid (itoa_any t W t0 (by omega) h)
      have IM := fun W h => Lib.hid (itoa_any m W (by omega) m1 h)
      clear hkm hent hk16 hat hline hz hln hle1 hsz1 hkey hK hcur hg2 hcap
      unfold lineB at HLI HSZ
      obtain ⟨TT, hTT⟩ : ∃ x : ByteArray, x = ⟨(Lib.itoa t).toArray⟩ := ⟨_, rfl⟩
      obtain ⟨MM, hMM⟩ : ∃ x : ByteArray, x = ⟨(Lib.itoa m).toArray⟩ := ⟨_, rfl⟩
      rw [← hTT] at hiT HLI HSZ
      rw [← hMM] at hiM HLI HSZ
      simp only [← hTT] at IT
      simp only [← hMM] at IM
      clear hTT hMM
      go_upto_region 6 with (fail)
      obtain ⟨W3, hW3⟩ : ∃ W3, W3 = wr.alloc (.cells #[.string sa, .int .i64 t, .string ha, .int .i64 m] 53) := ⟨_, rfl⟩
      rw [← hW3]
      have hB3 : Below wr.heap.size wr W3 := by rw [hW3]; exact (Below.refl _ _).alloc (Nat.le_refl _) _
      have hr3 : W3.heap[wr.heap.size]? = some (.cells #[.string sa, .int .i64 t, .string ha, .int .i64 m] 53 (0, 0)) := by rw [hW3]; exact heap_alloc_new wr _
      have HX : Hid (∀ W', Below W3.heap.size W3 W' → W'.cell? ⟨wr.heap.size, 0, none⟩ = some (.string sa) ∧ W'.cell? ⟨wr.heap.size, 1, none⟩ = some (.int .i64 t) ∧ W'.cell? ⟨wr.heap.size, 2, none⟩ = some (.string ha) ∧ W'.cell? ⟨wr.heap.size, 3, none⟩ = some (.int .i64 m)) := fun W' k => by
        have h1 := (k.block wr.heap.size (Array.getElem?_eq_some_iff.1 hr3).1).trans hr3
        exact ⟨by rw [cell_of_row W' _ 0 _ 53 (0, 0) h1]; rfl, by rw [cell_of_row W' _ 1 _ 53 (0, 0) h1]; rfl, by rw [cell_of_row W' _ 2 _ 53 (0, 0) h1]; rfl, by rw [cell_of_row W' _ 3 _ 53 (0, 0) h1]; rfl⟩
      have L3 := Lib.hid (isbld_keep HL.out hB3)
      have T3 := Lib.hid (Joins.tab_stays gpow TR.out hB3 (Nat.le_refl _))
      have B3 := Lib.hid (HBr.out.trans (hB3.mono HBr.out.size))
      have O3 := Lib.hid (HO.out.trans (kept_below hB3))
      have y1 : ¬ (9223372036854775807 < K.size + 1) := by omega
      have y2 : ¬ (9223372036854775807 < K.size + 1 + sa.size) := by omega
      have y3 : ¬ (9223372036854775807 < K.size + 1 + sa.size + 1) := by omega
      have y4 : ¬ (9223372036854775807 < K.size + 1 + sa.size + 1 + TT.size) := by omega
      have y5 : ¬ (9223372036854775807 < K.size + 1 + sa.size + 1 + TT.size + 1) := by omega
      have y6 : ¬ (9223372036854775807 < K.size + 1 + sa.size + 1 + TT.size + 1 + ha.size) := by omega
      have y7 : ¬ (9223372036854775807 < K.size + 1 + sa.size + 1 + TT.size + 1 + ha.size + 1) := by omega
      have y8 : ¬ (9223372036854775807 < K.size + 1 + sa.size + 1 + TT.size + 1 + ha.size + 1 + MM.size) := by omega
      have y9 : ¬ (9223372036854775807 < K.size + 1 + sa.size + 1 + TT.size + 1 + ha.size + 1 + MM.size + 1) := by omega
      have IT3 : Hid (∀ w', Below W3.heap.size W3 w' → Calls Tryz.prog 32 #[.int .i64 t] w' fun e w'' => e = .returned (.string TT) ∧ Below w'.heap.size w' w'') := fun w' k => (IT w' (Joins.tab_stays gpow T3.out k (Nat.le_refl _))).out
      have IM3 : Hid (∀ w', Below W3.heap.size W3 w' → Calls Tryz.prog 32 #[.int .i64 m] w' fun e w'' => e = .returned (.string MM) ∧ Below w'.heap.size w' w'') := fun w' k => (IM w' (Joins.tab_stays gpow T3.out k (Nat.le_refl _))).out
      have x0 : ∀ i : Lat W3, i.w.cell? ⟨wr.heap.size, 0, none⟩ = some (.string sa) := fun i => (HX.out _ i.h).1
      have x1 : ∀ i : Lat W3, i.w.cell? ⟨wr.heap.size, 1, none⟩ = some (.int .i64 t) := fun i => (HX.out _ i.h).2.1
      have x2 : ∀ i : Lat W3, i.w.cell? ⟨wr.heap.size, 2, none⟩ = some (.string ha) := fun i => (HX.out _ i.h).2.2.1
      have x3 : ∀ i : Lat W3, i.w.cell? ⟨wr.heap.size, 3, none⟩ = some (.int .i64 m) := fun i => (HX.out _ i.h).2.2.2
      clear hW3 hr3 hB3 hrun zk c2r IT IM
      refine wp_region_lat_tail (W := W3) 20 (by kernel_rfl) (by kernel_rfl) (by kernel_rfl) (Below.refl _ _) ?_
      simp only [List.take_succ_cons, List.take_zero, List.drop_succ_cons, List.drop_zero]
      iterate 20 (go_big_quiet_step ((first | (with_reducible exact Lat.call (IT3.out _ (Lat.h _))) | (with_reducible exact Lat.call (IM3.out _ (Lat.h _))))))
      refine wpQuiet_nil ?_
      rintro _ ⟨iw, rfl⟩
      go_wp2_with (go_at_call 31; refine (Tryz.Builder_WriteString_k w.heap.size w.heap.size _ _ _ (isbld_keep L3.out iw.h) (by have := HSZ.out; simpa [Lib.byteCells] using this) (Nat.le_trans B3.out.size iw.h.size)).mono ?_; rintro e w6 ⟨rfl, hbl6, hb6, ho6⟩)
      go_roundw
      case rel => exact ⟨i + 1, by omega, by push_cast; rfl, by rw [HLI.out, Lib.byteCells_append]; exact .inr hbl6, (B3.out.trans (iw.h.mono B3.out.size)).trans hb6, (O3.out.trans (kept_below iw.h)).trans ho6⟩
      case measure => simp [intOf]; omega
    · obtain rfl : i = nk := by omega
      rw [HNK.out, List.take_length, HKS.out] at HL
      go_wp2_with (go_at_call 33; refine (Tryz.Builder_String_any_k w.heap.size w.heap.size _ _ HL.out HBr.out.size).mono ?_; rintro e w6 ⟨rfl, _, hb6, _⟩)
      go_ret
      exact ⟨rfl, HBr.out.trans hb6⟩
end Go.Proofs.YtkgbldkjpohinaaGreatDoor
