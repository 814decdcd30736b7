/- (*Book).line: of any text. -/
import Derived.Test.YtkgbldkjpohinaaGreatDoorLetters
import Derived.Test.YtkgbldkjpohinaaGreatDoorFields
import Derived.Test.YtkgbldkjpohinaaGreatDoorNumber
import Derived.Test.YtkgbldkjpohinaaGreatDoorUnhex
import Derived.Test.YtkgbldkjpohinaaGreatDoorLat
import Derived.Deep.DeepCutAuto
import Derived.Deep.CutBlock
namespace Go.Proofs.YtkgbldkjpohinaaGreatDoor
open Go.RowKit Go.Maps Go.Sort LatT
set_option linter.unusedVariables false
theorem size_le_sizes : ∀ (l : List ByteArray) (x : ByteArray), x ∈ l → x.size ≤ sizes l
  | [], _, h => by cases h
  | y :: r, x, h => by
    have e : sizes (y :: r) = y.size + sizes r := by simp [sizes]
    rcases List.mem_cons.1 h with h | h
    · rw [h]; omega
    · have := size_le_sizes r x h; omega
/-- A book's line that was read. -/
structure Ent (Du : DataW Unit) (k sa ha : ByteArray) (t n : Int) : Prop where
  new : Maps.has Du (.string k.data.toList) = false
  k16 : k.size ≤ 16
  s16 : sa.size ≤ 16
  h64 : ha.size ≤ 64
  t0 : 0 ≤ t
  t1 : t ≤ 100
  n0 : 1 ≤ n
  n1 : n ≤ 2147483647
def wrongV : Value := .iface 73 (.agg #[.int .i64 3])
def LineR (w0 w : World) (b mu mf : Nat) (tries wait : Int) (nu nf : Nat) (Du Df : DataW Unit) (e : Ending) (w' : World) : Prop :=
  w.grownBy w' (some mu) ∧ ((∃ (k sa ha : ByteArray) (t n : Int), e = .returned .nilIface ∧ Ent Du k sa ha t n ∧ BookSt w0 w' b mu mf tries wait (nu + 1) nf (Du.put (.string k.data.toList) (entD sa t ha n)) Df) ∨ (e = .returned wrongV ∧ BookSt w0 w' b mu mf tries wait nu nf Du Df))
theorem line_wrong {w0 w w' : World} {b mu mf : Nat} {tries wait : Int} {nu nf : Nat} {Du Df : DataW Unit} (h : BookSt w0 w b mu mf tries wait nu nf Du Df) (hb : Below w.heap.size w w') : LineR w0 w b mu mf tries wait nu nf Du Df (.returned wrongV) w' :=
  ⟨grown_below hb _, .inr ⟨rfl, h.keep hb⟩⟩
/-- What a lookup of a user answers. -/
def lookV (D : DataW Unit) (k : ByteArray) : Value := match D.atKey (.string k.data.toList) noU with
  | .agg [.lit (.string s), .lit (.int .i64 t), .lit (.string h), .lit (.int .i64 n)] => .agg #[.string ⟨s.toArray⟩, .int .i64 t, .string ⟨h.toArray⟩, .int .i64 n]
  | _ => .agg #[.string ⟨#[]⟩, .int .i64 0, .string ⟨#[]⟩, .int .i64 0]
theorem lookV_ent {D : DataW Unit} {k s h : ByteArray} {t n : Int} (e : D.atKey (.string k.data.toList) noU = entD s t h n) : lookV D k = .agg #[.string s, .int .i64 t, .string h, .int .i64 n] := by
  unfold lookV
  rw [e]
  cases s
  cases h
  rfl
theorem lookV_shape (D : DataW Unit) (k : ByteArray) : ∃ s t h n, lookV D k = .agg #[.string s, .int .i64 t, .string h, .int .i64 n] := by
  unfold lookV
  split
  · exact ⟨_, _, _, _, rfl⟩
  · exact ⟨_, _, _, _, rfl⟩
theorem look_user {w : World} {mu nu : Nat} {D : DataW Unit} (h : w.ownsMap Tryz.prog 9 readU mu nu D) (k : ByteArray) (hk : k.size ≤ maxLen) :
    (Instr.lookup 44 (.map (some mu)) (.string k) true).run Tryz.prog w = .ok (.tuple #[lookV D k, .bool (Maps.has D (.string k.data.toList))]) w := by
  obtain ⟨v, ps, hrun, hv⟩ := h.look_ok law9 und59 (zero64 w) (zd := noU) (zp := []) rfl (WideMaps.keyOf_string_mk und9 hk)
  obtain ⟨sa, t2, ha, m, rfl, hz⟩ := readU_inv hv
  rw [hrun, lookV_ent (congrArg Prod.fst hz)]
set_option maxRecDepth 100000 in
set_option maxHeartbeats 8000000 in
theorem line_any {w0 w : World} {b mu mf : Nat} {tries wait : Int} {nu nf : Nat} {Du Df : DataW Unit} (h : BookSt w0 w b mu mf tries wait nu nf Du Df) (s : ByteArray) (hs : s.size ≤ 1048576) (hv : LibV w0) (hnu : nu < 100000000) :
    Calls Tryz.prog 27 #[.pointer (some ⟨b, 0, none⟩), .string s] w (LineR w0 w b mu mf tries wait nu nf Du Df) := by
  have HST := Lib.hid h
  have HV := Lib.hid (hv.below h.below (Nat.le_refl _))
  have CF := Lib.hid (fields_any s w hs)
  clear h hv
  go_enter Tryz.func27, Tryz.ntmps27
  go_upto_region 2 with (go_at_call 43; refine CF.out.mono ?_; rintro e w1 ⟨v, l, rfl, ho, hl0, hsz, b1⟩; obtain ⟨ao, cap, hvv⟩ := ho.shape; subst hvv)
  have HB1 := Lib.hid b1
  by_cases h5 : l.length = 5
  · obtain ⟨g, cap', cur, hv, hBg, hrow, hcap, hcur⟩ := ho.row (by omega)
    obtain ⟨rfl, rfl⟩ : ao = some ⟨g, 0, none⟩ ∧ cap = cap' := by simpa using hv
    obtain ⟨a0, ha0⟩ : ∃ x, x = l[0] := ⟨_, rfl⟩
    obtain ⟨a1, ha1⟩ : ∃ x, x = l[1] := ⟨_, rfl⟩
    obtain ⟨a2, ha2⟩ : ∃ x, x = l[2] := ⟨_, rfl⟩
    obtain ⟨a3, ha3⟩ : ∃ x, x = l[3] := ⟨_, rfl⟩
    obtain ⟨a4, ha4⟩ : ∃ x, x = l[4] := ⟨_, rfl⟩
    have hsl : ∀ x ∈ l, x.size ≤ 1048576 := fun x hx => by have := size_le_sizes l x hx; omega
    have z0 : a0.size ≤ 1048576 := hsl _ (by rw [ha0]; exact List.getElem_mem _)
    have z1 : a1.size ≤ 1048576 := hsl _ (by rw [ha1]; exact List.getElem_mem _)
    have z2 : a2.size ≤ 1048576 := hsl _ (by rw [ha2]; exact List.getElem_mem _)
    have z3 : a3.size ≤ 1048576 := hsl _ (by rw [ha3]; exact List.getElem_mem _)
    have z4 : a4.size ≤ 1048576 := hsl _ (by rw [ha4]; exact List.getElem_mem _)
    have hglt := (Array.getElem?_eq_some_iff.1 hrow).1
    have HX : Hid (∀ W', Below w1.heap.size w1 W' → W'.cell? ⟨g, 0, none⟩ = some (.string a0) ∧ W'.cell? ⟨g, 1, none⟩ = some (.string a1) ∧ W'.cell? ⟨g, 2, none⟩ = some (.string a2) ∧ W'.cell? ⟨g, 3, none⟩ = some (.string a3) ∧ W'.cell? ⟨g, 4, none⟩ = some (.string a4)) := fun W' k => by
      have h1 := (k.block g hglt).trans hrow
      exact ⟨by rw [cell_of_row W' _ 0 _ 9 (0, 0) h1, hcur 0 (by omega), ha0], by rw [cell_of_row W' _ 1 _ 9 (0, 0) h1, hcur 1 (by omega), ha1], by rw [cell_of_row W' _ 2 _ 9 (0, 0) h1, hcur 2 (by omega), ha2], by rw [cell_of_row W' _ 3 _ 9 (0, 0) h1, hcur 3 (by omega), ha3], by rw [cell_of_row W' _ 4 _ 9 (0, 0) h1, hcur 4 (by omega), ha4]⟩
    obtain ⟨_, _, x2, _, _⟩ := HX.out w1 (Below.refl _ _)
    rw [h5]
    have V1 := Lib.hid (HV.out.below b1 (Nat.le_refl _))
    clear ha0 ha1 ha2 ha3 ha4 hsl hrow hcur hcap ho hl0 hsz hv h5 b1 hglt CF
    have m0 : a0.size ≤ maxLen := by unfold maxLen; omega
    have m1 : a1.size ≤ maxLen := by unfold maxLen; omega
    go_upto_region 7 with (first
      | (go_at_call_of 44 (Value.string a2); refine (number_any a2 _ (by omega) V1.out).mono ?_; rintro e w2 ⟨n2, r2, rfl, k2, b2⟩; have B2 := Lib.hid b2; have y2 := HX.out w2 b2; have x4 := y2.2.2.2.2; clear y2; have V2 := Lib.hid (V1.out.below b2 (Nat.le_refl _)); clear b2)
      | (go_at_call_of 44 (Value.string a4); refine (number_any a4 _ (by omega) V2.out).mono ?_; rintro e w3 ⟨n4, r4, rfl, k4, b3⟩; have B3 := Lib.hid (B2.out.trans (b3.mono B2.out.size)); have y3 := HX.out w3 B3.out; have x3 := y3.2.2.2.1; clear y3 b3)
      | (go_at_call 45; refine (unhex_any a3 _ (by omega)).mono ?_; rintro e w4 ⟨v4, rfl, hB4, b4⟩; have B4 := Lib.hid (B3.out.trans (b4.mono B3.out.size)); obtain ⟨ao4, c4, hv4⟩ := hB4.shape; subst hv4; have y4 := HX.out w4 B4.out; have x0 := y4.1; have x1 := y4.2.1; have x3' := y4.2.2.2.1; clear y4 b4))
    have h4 := HST.out.keep (HB1.out.trans (B4.out.mono HB1.out.size))
    have H4 := Lib.hid h4
    have c2 : w4.cell? ⟨b, 2, none⟩ = some (.map (some mu)) := by rw [cell_of_row w4 b 2 _ 47 (0, 0) h4.at_]; rfl
    have look : ∀ W', Below w4.heap.size w4 W' → (Instr.lookup 44 (.map (some mu)) (.string a0) true).run Tryz.prog W' = .ok (.tuple #[lookV Du a0, .bool (Maps.has Du (.string a0.data.toList))]) W' := fun W' k => look_user (h4.keep k).hu a0 m0
    obtain ⟨LV, hLV⟩ : ∃ v, v = lookV Du a0 := ⟨_, rfl⟩
    obtain ⟨p, tt, q, i, hLV2⟩ := lookV_shape Du a0
    rw [← hLV] at look hLV2
    rw [hLV2] at look
    have lookA := look w4.drew ⟨rfl, rfl, rfl, Nat.le_refl _, fun _ _ => rfl⟩
    have lookB := look ((w4.alloc (.cells #[.string ⟨#[]⟩, .int .i64 0, .string ⟨#[]⟩, .int .i64 0] 53)).drew) (((Below.refl _ _).alloc (Nat.le_refl _) _).drew)
    have kA : Below w4.heap.size w4 (w4.alloc (.cells #[.string ⟨#[]⟩, .int .i64 0, .string ⟨#[]⟩, .int .i64 0] 53)) := (Below.refl _ _).alloc (Nat.le_refl _) _
    have c2a : (w4.alloc (.cells #[.string ⟨#[]⟩, .int .i64 0, .string ⟨#[]⟩, .int .i64 0] 53)).cell? ⟨b, 2, none⟩ = some (.map (some mu)) := (kA.cell (p := ⟨b, 2, none⟩) (Array.getElem?_eq_some_iff.1 h4.at_).1).trans c2
    have x0a := (HX.out _ (B4.out.trans (kA.mono B4.out.size))).1
    obtain ⟨has, hhas⟩ : ∃ x, x = Maps.has Du (.string a0.data.toList) := ⟨_, rfl⟩
    rw [← hhas] at lookA lookB
    have HHAS := Lib.hid hhas
    have K2 := Lib.hid k2
    have K4 := Lib.hid k4
    clear look hLV hLV2 h4 hhas k2 k4 V1 V2 kA
    go_cut [12, 13] (fun v12 v13 wx => v13 = .bool has ∧ Below w4.heap.size w4 wx)
    case first =>
      have hend : Below w4.heap.size w4 (w4.alloc (.cells #[.string p, .int .i64 tt, .string q, .int .i64 i] 53)).drew := ((Below.refl _ _).alloc (Nat.le_refl _) _).drew
      have HEND := Lib.hid hend
      clear hend
      go_region
      all_goals
        go_wp2
        go_meet
        case rel => exact ⟨rfl, HEND.out⟩
    case rest =>
      obtain ⟨rfl, b5⟩ := hcut
      have BC := Lib.hid (HB1.out.trans ((B4.out.trans (b5.mono B4.out.size)).mono HB1.out.size))
      have BX := Lib.hid (B4.out.trans (b5.mono B4.out.size))
      have M3 : Hid (∀ w', Below wc.heap.size wc w' → Calls Tryz.prog 16 #[.string a0, .string a1, .int .i64 n2, .int .i64 n4] w' fun e w'' => e = .returned (.bool (mayB a0 a1 n2 n4)) ∧ Below w'.heap.size w' w'') := fun w' _ => may_any a0 a1 n2 n4 w' m0 m1
      obtain ⟨mb, hmb⟩ : ∃ x, x = mayB a0 a1 n2 n4 := ⟨_, rfl⟩
      rw [← hmb] at M3
      have HMB := Lib.hid hmb
      obtain ⟨hx, hhx⟩ : ∃ x, x = (unhexL (bytesOf a3)).isSome := ⟨_, rfl⟩
      obtain ⟨LN, hLN⟩ : ∃ x, x = ((unhexL (bytesOf a3)).getD []).length := ⟨_, rfl⟩
      have hlen : hx = true → a3.size = 2 * LN := fun h => by
        rw [hhx] at h
        obtain ⟨o, ho⟩ := Option.isSome_iff_exists.1 h
        have := unhexL_len _ _ ho
        rw [bytesOf_length] at this
        rw [hLN, ho]
        exact this
      have HLEN := Lib.hid hlen
      rw [← hhx, ← hLN]
      have x0 : ∀ i : Lat wc, i.w.cell? ⟨g, 0, none⟩ = some (.string a0) := fun i => (HX.out _ (BX.out.trans (i.h.mono BX.out.size))).1
      have x1 : ∀ i : Lat wc, i.w.cell? ⟨g, 1, none⟩ = some (.string a1) := fun i => (HX.out _ (BX.out.trans (i.h.mono BX.out.size))).2.1
      clear hmb hhx hLN hlen b5 x3' hB4 c2a x0a lookA lookB c2
      go_upto_region 8 with (fail)
      have hcase : r2 = false ∨ (r2 = true ∧ r4 = false) ∨ (r2 = true ∧ r4 = true ∧ hx = false) ∨ (r2 = true ∧ r4 = true ∧ hx = true ∧ ((LN : Int) != 32) = true) ∨ (r2 = true ∧ r4 = true ∧ hx = true ∧ ((LN : Int) != 32) = false ∧ has = true) ∨ (r2 = true ∧ r4 = true ∧ hx = true ∧ ((LN : Int) != 32) = false ∧ has = false ∧ mb = false) ∨ (r2 = true ∧ r4 = true ∧ hx = true ∧ ((LN : Int) != 32) = false ∧ has = false ∧ mb = true) := by
        cases r2 <;> cases r4 <;> cases hx <;> cases ((LN : Int) != 32) <;> cases has <;> cases mb <;> simp
      rcases hcase with rfl | ⟨rfl, rfl⟩ | ⟨rfl, rfl, rfl⟩ | ⟨rfl, rfl, rfl, q32⟩ | ⟨rfl, rfl, rfl, q32, rfl⟩ | ⟨rfl, rfl, rfl, q32, rfl, rfl⟩ | ⟨rfl, rfl, rfl, q32, rfl, rfl⟩
      · refine wp_region_lat (W := wc) (by kernel_rfl) (by kernel_rfl) (Below.refl _ _) ?_
        iterate 30 (go_big_quiet_step ((first | (with_reducible exact Lat.call (M3.out _ (Lat.h _))))))
        refine wpQuiet_nil ?_
        rintro _ ⟨iw, rfl⟩
        go_wp2
        go_ret
        exact line_wrong HST.out (BC.out.trans (iw.h.mono BC.out.size))
      · refine wp_region_lat (W := wc) (by kernel_rfl) (by kernel_rfl) (Below.refl _ _) ?_
        iterate 30 (go_big_quiet_step ((first | (with_reducible exact Lat.call (M3.out _ (Lat.h _))))))
        refine wpQuiet_nil ?_
        rintro _ ⟨iw, rfl⟩
        go_wp2
        go_ret
        exact line_wrong HST.out (BC.out.trans (iw.h.mono BC.out.size))
      · refine wp_region_lat (W := wc) (by kernel_rfl) (by kernel_rfl) (Below.refl _ _) ?_
        iterate 30 (go_big_quiet_step ((first | (with_reducible exact Lat.call (M3.out _ (Lat.h _))))))
        refine wpQuiet_nil ?_
        rintro _ ⟨iw, rfl⟩
        go_wp2
        go_ret
        exact line_wrong HST.out (BC.out.trans (iw.h.mono BC.out.size))
      · refine wp_region_lat (W := wc) (by kernel_rfl) (by kernel_rfl) (Below.refl _ _) ?_
        iterate 30 (go_big_quiet_step ((first | (with_reducible exact Lat.call (M3.out _ (Lat.h _))))))
        refine wpQuiet_nil ?_
        rintro _ ⟨iw, rfl⟩
        go_wp2
        go_ret
        exact line_wrong HST.out (BC.out.trans (iw.h.mono BC.out.size))
      · refine wp_region_lat (W := wc) (by kernel_rfl) (by kernel_rfl) (Below.refl _ _) ?_
        iterate 30 (go_big_quiet_step ((first | (with_reducible exact Lat.call (M3.out _ (Lat.h _))))))
        refine wpQuiet_nil ?_
        rintro _ ⟨iw, rfl⟩
        go_wp2
        go_ret
        exact line_wrong HST.out (BC.out.trans (iw.h.mono BC.out.size))
      · refine wp_region_lat (W := wc) (by kernel_rfl) (by kernel_rfl) (Below.refl _ _) ?_
        iterate 30 (go_big_quiet_step ((first | (with_reducible exact Lat.call (M3.out _ (Lat.h _))))))
        refine wpQuiet_nil ?_
        rintro _ ⟨iw, rfl⟩
        go_wp2
        go_ret
        exact line_wrong HST.out (BC.out.trans (iw.h.mono BC.out.size))
      · have e32 : LN = 32 := by simp at q32; omega
        have E32 := Lib.hid e32
        clear e32
        refine wp_region_lat (W := wc) (by kernel_rfl) (by kernel_rfl) (Below.refl _ _) ?_
        iterate 30 (go_big_quiet_step ((first | (with_reducible exact Lat.call (M3.out _ (Lat.h _))))))
        refine wpQuiet_nil ?_
        rintro _ ⟨iw, rfl⟩
        go_upto_region 10 with (fail)
        obtain ⟨W6, hW6⟩ : ∃ W6, W6 = iw.w := ⟨_, rfl⟩
        have bw6 : Below wc.heap.size wc W6 := by rw [hW6]; exact iw.h
        rw [← hW6]
        have B6 := Lib.hid (BC.out.trans (bw6.mono BC.out.size))
        have X6 := HX.out W6 (BX.out.trans (bw6.mono BX.out.size))
        have h6 := HST.out.keep B6.out
        have c2 : W6.cell? ⟨b, 2, none⟩ = some (.map (some mu)) := by rw [cell_of_row W6 b 2 _ 47 (0, 0) h6.at_]; rfl
        have y0 := X6.1
        have y1 := X6.2.1
        have y3 := X6.2.2.2.1
        have hmay := mayB_true HMB.out.symm
        have HMAY := Lib.hid hmay
        clear hW6 X6 x0 x1 M3 bw6 hmay
        go_wp2
        refine wp_region_quiet_sink 16 (by kernel_rfl) (by kernel_rfl) (by kernel_rfl) ?_
        simp only [List.take_succ_cons, List.take_zero, List.drop_succ_cons, List.drop_zero]
        repeat (go_big_quiet_step (fail))
        refine wpQuiet_nil ?_
        rintro _ ⟨nq, rfl⟩
        have h7 := h6.keep (⟨rfl, rfl, rfl, Nat.le_refl _, fun _ _ => rfl⟩ : Below W6.heap.size W6 (W6.drewN nq))
        obtain ⟨w9, hrun, hown9, hg9⟩ := h7.hu.update law9 und59 (by unfold maxLen; omega) (WideMaps.keyOf_string_mk und9 m0) (show readU (.agg #[.string a1, .int .i64 n2, .string a3, .int .i64 n4]) = some (entD a1 n2 a3 n4, []) from rfl)
        go_wp2
        go_ret
        refine ⟨(grown_below (⟨B6.out.os, B6.out.tape, B6.out.output, B6.out.size, B6.out.block⟩ : Below w.heap.size w (W6.drewN nq)) (some mu)).trans hg9, .inl ⟨a0, a1, a3, n2, n4, rfl, ?_, h7.grownU hown9 hg9⟩⟩
        obtain ⟨q1, q2, q3, q4, q5, q6, q7, q8⟩ := HMAY.out
        have h64 := HLEN.out trivial
        rw [E32.out] at h64
        exact ⟨HHAS.out.symm, q2, q4, by omega, q5, q6, q7, q8⟩
  · have d5 : ((l.length : Int) == 5) = false := by simp; omega
    obtain ⟨ln, hln⟩ : ∃ n, n = l.length := ⟨_, rfl⟩
    rw [← hln] at d5 ⊢
    clear ho hl0 hsz h5 hln
    go_wp2
    go_ret
    exact line_wrong HST.out HB1.out
end Go.Proofs.YtkgbldkjpohinaaGreatDoor
