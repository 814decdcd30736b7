/- The reference's book: Digits, Text. -/
import Derived.Test.YtkgbldkjpohinaaGreatDoorMRefA
import Derived.Test.YtkgbldkjpohinaaGreatDoorMSha
import Derived.Test.YtkgbldkjpohinaaGreatDoorTextL
import Derived.Lib.ItoaMem
import Derived.Test.YtkgbldkjpohinaaGreatDoorLat
namespace Go.Proofs.YtkgbldkjpohinaaGreatDoor
open Go.RowKit Go.Maps LatT
set_option linter.unusedVariables false
theorem und80b : Tryz.prog.underlying 80 = some (.slice 5) := by kernel_rfl
theorem und5b : Tryz.prog.underlying 5 = some (.int .u8) := by kernel_rfl
theorem und9b : Tryz.prog.underlying 9 = some .string := by kernel_rfl
theorem conv_one (W : World) (d : Nat) : (convert 80 9 (.slice (some ⟨W.heap.size, 0, none⟩) 1 1)).run Tryz.prog (W.alloc (Obj.cells #[.int .u8 (48 + (d : Int))] 5)) = .ok (.string ⟨#[UInt8.ofNat (48 + d)]⟩) (W.alloc (Obj.cells #[.int .u8 (48 + (d : Int))] 5)) := by
  have := run_convert_bytes_arg (P := Tryz.prog) (W.alloc (Obj.cells #[Value.int IntKind.u8 (48 + (d : Int))] 5)) 80 5 und80b und5b W.heap.size 0 1 1 [48 + (d : Int)] rfl (fun j hj => by
    obtain rfl : j = 0 := by simpa using hj
    rw [cell_of_row _ _ _ _ 5 (0, 0) (heap_alloc_new W _)]
    rfl) 9 und9b
  rw [this]
  simp only [strOfNums, List.map_cons, List.map_nil]
  rw [show (48 + (d : Int)).toNat = 48 + d by omega]
theorem dec_small {m : Nat} (h : m < 10) : Lib.decDigits m = [UInt8.ofNat (48 + m)] := Lib.decDigits_one h
theorem dec_big {m : Nat} (h : ¬ m < 10) : Lib.decDigits m = Lib.decDigits (m / 10) ++ [UInt8.ofNat (48 + m % 10)] := by rw [Lib.decDigits, dif_neg h]
def textR (us : List RU) : ByteArray := ⟨(us.flatMap fun u => (lineB u.name u.salt u.times u.hash u.tag).data.toList).toArray⟩
theorem textR_snoc (us : List RU) (x : RU) : textR (us ++ [x]) = textR us ++ lineB x.name x.salt x.times x.hash x.tag := by
  unfold textR
  rw [List.flatMap_append]
  apply ByteArray.ext
  simp
def UOk (u : RU) : Prop := u.name.size ≤ 16 ∧ u.salt.size ≤ 16 ∧ u.hash.size ≤ 64 ∧ 0 ≤ u.times ∧ u.times ≤ 100 ∧ 1 ≤ u.tag ∧ u.tag ≤ 2147483647
theorem line_size {u : RU} (h : UOk u) : (lineB u.name u.salt u.times u.hash u.tag).size ≤ 200 := by
  obtain ⟨z0, z1, z2, z3, z4, z5, z6⟩ := h
  have i1 := itoa_len z3 (by omega : u.times ≤ 2147483647)
  have i2 := itoa_len (by omega : 0 ≤ u.tag) z6
  unfold lineB
  simp only [ByteArray.size_append]
  have o : ∀ c : UInt8, (⟨#[c]⟩ : ByteArray).size = 1 := fun c => rfl
  rw [o, o]
  omega
theorem textR_size : ∀ (us : List RU), (∀ u ∈ us, UOk u) → (textR us).size ≤ 200 * us.length
  | [], _ => Nat.le_refl _
  | u :: r, h => by
    have h1 := line_size (h u (by simp))
    have h2 := textR_size r (fun x hx => h x (by simp [hx]))
    have e : (textR (u :: r)).size = (lineB u.name u.salt u.times u.hash u.tag).size + (textR r).size := by
      unfold textR
      rw [List.flatMap_cons]
      show (List.toArray _).size = _
      rw [List.size_toArray, List.length_append]
      rfl
    rw [e, List.length_cons]
    omega
set_option maxRecDepth 100000 in
set_option maxHeartbeats 2000000 in
theorem r_digits (n : Nat) (w : World) (h1 : n ≤ 2147483647) :
    Calls Tryz.prog 34 #[.int .i64 n] w fun e w' => e = .returned (.string ⟨(Lib.decDigits n).toArray⟩) ∧ Below w.heap.size w w' := by
  obtain ⟨R, hR⟩ : ∃ R, R = Lib.decDigits n := ⟨_, rfl⟩
  rw [← hR]
  have HR := Lib.hid hR
  clear hR
  go_enter Tryz.func34, Tryz.ntmps34
  go_wp2
  go_loopw [0, 3] (fun a s wr => ∃ (m : Nat) (l : List UInt8), a = .int .i64 m ∧ s = .string ⟨l.toArray⟩ ∧ R = Lib.decDigits m ++ l ∧ m ≤ 2147483647 ∧ Below w.heap.size w wr) (fun a _ _ => (intOf a).toNat)
  case atStart => exact ⟨n, [], rfl, rfl, by rw [HR.out, List.append_nil], h1, Below.refl _ _⟩
  case round =>
    obtain ⟨m, l, rfl, rfl, hl, hm, hb⟩ := hrel
    have hll : l.length ≤ 21 := by
      have e : R.length ≤ 21 := by rw [HR.out, ← Lib.itoa_nonneg]; exact Lib.itoa_length_le _ (by omega) (by omega)
      rw [hl, List.length_append] at e
      omega
    have HL := Lib.hid hl
    have HB := Lib.hid hb
    have hbs := hb.size
    clear hl hb
    obtain ⟨S, hS⟩ : ∃ S : ByteArray, S = ⟨l.toArray⟩ := ⟨_, rfl⟩
    have hSs : S.size = l.length := by rw [hS]; rfl
    rw [← hS]
    have HS := Lib.hid hS
    clear hS
    by_cases h9 : m < 10
    · have d9 : decide ((m : Int) > 9) = false := decide_eq_false (by omega)
      have hm2 : (m : Int) % 256 = m := by omega
      have hm3 : (48 + (m : Int)) % 256 = 48 + m := by omega
      have hc := conv_one wr m
      obtain ⟨D, hD⟩ : ∃ D : ByteArray, D = ⟨#[UInt8.ofNat (48 + m)]⟩ := ⟨_, rfl⟩
      have hDs : D.size = 1 := by rw [hD]; rfl
      rw [← hD] at hc
      have HD := Lib.hid hD
      clear hD
      go_wp2
      go_ret
      refine ⟨?_, HB.out.alloc hbs _⟩
      rw [HD.out, HS.out, HL.out, dec_small h9]
      rfl
    · have d9 : decide ((m : Int) > 9) = true := decide_eq_true (by omega)
      have hc := conv_one wr (m % 10)
      rw [show ((m % 10 : Nat) : Int) = (m : Int) % 10 by omega] at hc
      obtain ⟨D, hD⟩ : ∃ D : ByteArray, D = ⟨#[UInt8.ofNat (48 + m % 10)]⟩ := ⟨_, rfl⟩
      have hDs : D.size = 1 := by rw [hD]; rfl
      rw [← hD] at hc
      have HD := Lib.hid hD
      clear hD
      go_wp2
      go_roundw
      case rel =>
        refine ⟨m / 10, UInt8.ofNat (48 + m % 10) :: l, by go_num, ?_, ?_, by omega, HB.out.alloc hbs _⟩
        · rw [HD.out, HS.out]; rfl
        · rw [HL.out, dec_big h9, List.append_assoc]; rfl
      case measure => show ((m : Int) / 10).toNat < (m : Int).toNat; omega
set_option maxRecDepth 100000 in
set_option maxHeartbeats 4000000 in
theorem r_text {B p : Nat} {w : World} {most wait : Int} {us : List RU} {fs : List RF} (h : RefSt B w p most wait us fs) (hl : us.length < 1000) (hok : ∀ u ∈ us, UOk u) :
    Calls Tryz.prog 15 #[.pointer (some ⟨p, 0, none⟩)] w fun e w' => e = .returned (.string (textR us)) ∧ Below w.heap.size w w' := by
  obtain ⟨vu, vf, h1, h2, h3⟩ := h.at_
  obtain ⟨ao, cap, rfl, _⟩ := ownU_shape h2
  have hplt := h.lt
  have HU := Lib.hid h2
  have HP := Lib.hid h1
  have HOK := Lib.hid hok
  clear h1 h2 h3 h hok
  go_enter Tryz.func15, Tryz.ntmps15
  go_wp2
  go_loopw [3, 4] (fun s i wr => ∃ k : Nat, i = .int .i64 k ∧ k ≤ us.length ∧ s = .string (textR (us.take k)) ∧ Below w.heap.size w wr) (fun _ i _ => us.length - (intOf i).toNat)
  case atStart => exact ⟨0, rfl, by omega, rfl, Below.refl _ _⟩
  case round =>
    obtain ⟨k, rfl, hk, rfl, hb⟩ := hrel
    have HB := Lib.hid hb
    have hbs := hb.size
    have c2 : wr.cell? ⟨p, 2, none⟩ = some (.slice ao us.length cap) := by
      rw [hb.cell (p := ⟨p, 2, none⟩) hplt, cell_of_row w p 2 _ 51 (0, 0) HP.out]; rfl
    clear hb
    by_cases hlt : k < us.length
    · obtain ⟨g, cap', hv, hBg, hcap, hmx, ⟨cur, hg⟩, hc⟩ := ownU_row HU.out hlt
      obtain ⟨rfl, rfl⟩ : ao = some ⟨g, 0, none⟩ ∧ cap = cap' := by simpa using hv
      obtain ⟨x, hx⟩ : ∃ x, x = us[k] := ⟨_, rfl⟩
      rw [← hx] at hc
      have hcw : ∀ j, j < 5 → wr.cell? ⟨g, k * 5 + j, none⟩ = (uCells x)[j]? := fun j hj => by
        rw [← hc j hj]
        exact HB.out.cell (p := ⟨g, k * 5 + j, none⟩) (Array.getElem?_eq_some_iff.1 hg).1
      have hc0 : wr.cell? ⟨g, k * 5, none⟩ = some (.string x.name) := hcw 0 (by omega)
      have hc1 : wr.cell? ⟨g, k * 5 + 1, none⟩ = some (.string x.salt) := hcw 1 (by omega)
      have hc2 : wr.cell? ⟨g, k * 5 + 2, none⟩ = some (.string x.hash) := hcw 2 (by omega)
      have hc3 : wr.cell? ⟨g, k * 5 + 3, none⟩ = some (.int .i64 x.times) := hcw 3 (by omega)
      have hc4 : wr.cell? ⟨g, k * 5 + 4, none⟩ = some (.int .i64 x.tag) := hcw 4 (by omega)
      have hxok := HOK.out x (by rw [hx]; exact List.getElem_mem _)
      obtain ⟨z0, z1, z2, z3, z4, z5, z6⟩ := hxok
      have htk : textR (us.take (k + 1)) = textR (us.take k) ++ lineB x.name x.salt x.times x.hash x.tag := by
        rw [List.take_succ_eq_append_getElem hlt, ← hx]; exact textR_snoc _ _
      have hts : (textR (us.take k)).size ≤ 200 * 1000 := by
        have := textR_size (us.take k) (fun u hu => HOK.out u (List.mem_of_mem_take hu))
        have := List.length_take_le k us
        omega
      obtain ⟨S, hS⟩ : ∃ S, S = textR (us.take k) := ⟨_, rfl⟩
      rw [← hS] at hts htk ⊢
      have HT := Lib.hid htk
      clear hc hv hx hcw hS htk
      have hd : decide ((k : Int) < us.length) = true := by simp; omega
      obtain ⟨n1, hn1⟩ : ∃ n1 : Nat, x.times = n1 := ⟨x.times.toNat, by omega⟩
      obtain ⟨n2, hn2⟩ : ∃ n2 : Nat, x.tag = n2 := ⟨x.tag.toNat, by omega⟩
      rw [hn1] at hc3 z3 z4
      rw [hn2] at hc4 z5 z6
      obtain ⟨T1, hT1⟩ : ∃ T : ByteArray, T = ⟨(Lib.decDigits n1).toArray⟩ := ⟨_, rfl⟩
      obtain ⟨T2, hT2⟩ : ∃ T : ByteArray, T = ⟨(Lib.decDigits n2).toArray⟩ := ⟨_, rfl⟩
      have hs1 : T1.size ≤ 21 := by rw [hT1, ← Lib.itoa_nonneg]; exact itoa_len (by omega) (by omega)
      have hs2 : T2.size ≤ 21 := by rw [hT2, ← Lib.itoa_nonneg]; exact itoa_len (by omega) (by omega)
      have HD1 : Hid (∀ w' : World, Calls Tryz.prog 34 #[.int .i64 n1] w' fun e w'' => e = .returned (.string T1) ∧ Below w'.heap.size w' w'') := fun w' => by rw [hT1]; exact r_digits n1 w' (by omega)
      have HD2 : Hid (∀ w' : World, Calls Tryz.prog 34 #[.int .i64 n2] w' fun e w'' => e = .returned (.string T2) ∧ Below w'.heap.size w' w'') := fun w' => by rw [hT2]; exact r_digits n2 w' (by omega)
      have HTT : Hid (textR (us.take (k + 1)) = S ++ (x.name ++ ⟨#[58]⟩ ++ x.salt ++ ⟨#[58]⟩ ++ T1 ++ ⟨#[58]⟩ ++ x.hash ++ ⟨#[58]⟩ ++ T2 ++ ⟨#[10]⟩)) := by
        show _ = _
        rw [HT.out]
        unfold lineB
        rw [hn1, hn2, Lib.itoa_nonneg, Lib.itoa_nonneg, ← hT1, ← hT2]
      clear HT hn1 hn2 hT1 hT2
      obtain ⟨W, hW⟩ : ∃ W, W = wr.alloc (.cells #[.string x.name, .string x.salt, .string x.hash, .int .i64 n1, .int .i64 n2] 61) := ⟨_, rfl⟩
      go_upto_region 6 with (fail)
      rw [← hW]
      have hr2 : W.heap[wr.heap.size]? = some (.cells #[.string x.name, .string x.salt, .string x.hash, .int .i64 n1, .int .i64 n2] 61 (0, 0)) := by rw [hW]; exact heap_alloc_new _ _
      have hWl := (Array.getElem?_eq_some_iff.1 hr2).1
      have HBW : Hid (Below w.heap.size w W) := by rw [hW]; exact HB.out.alloc hbs _
      have HWS : Hid (w.heap.size ≤ W.heap.size) := HBW.out.size
      have L0 : ∀ i : Lat W, i.w.cell? ⟨wr.heap.size, 0, none⟩ = some (.string x.name) := fun i => (i.h.cell (p := ⟨wr.heap.size, 0, none⟩) hWl).trans ((cell_of_row W _ 0 _ 61 (0, 0) hr2).trans rfl)
      have L1 : ∀ i : Lat W, i.w.cell? ⟨wr.heap.size, 1, none⟩ = some (.string x.salt) := fun i => (i.h.cell (p := ⟨wr.heap.size, 1, none⟩) hWl).trans ((cell_of_row W _ 1 _ 61 (0, 0) hr2).trans rfl)
      have L2 : ∀ i : Lat W, i.w.cell? ⟨wr.heap.size, 2, none⟩ = some (.string x.hash) := fun i => (i.h.cell (p := ⟨wr.heap.size, 2, none⟩) hWl).trans ((cell_of_row W _ 2 _ 61 (0, 0) hr2).trans rfl)
      have L3 : ∀ i : Lat W, i.w.cell? ⟨wr.heap.size, 3, none⟩ = some (.int .i64 n1) := fun i => (i.h.cell (p := ⟨wr.heap.size, 3, none⟩) hWl).trans ((cell_of_row W _ 3 _ 61 (0, 0) hr2).trans rfl)
      have L4 : ∀ i : Lat W, i.w.cell? ⟨wr.heap.size, 4, none⟩ = some (.int .i64 n2) := fun i => (i.h.cell (p := ⟨wr.heap.size, 4, none⟩) hWl).trans ((cell_of_row W _ 4 _ 61 (0, 0) hr2).trans rfl)
      clear hW hr2 hWl c2 hc0 hc1 hc2 hc3 hc4
      have o1 : (⟨#[58]⟩ : ByteArray).size = 1 := rfl
      have o2 : (⟨#[10]⟩ : ByteArray).size = 1 := rfl
      refine wp_region_lat (W := W) (by kernel_rfl) (by kernel_rfl) (Below.refl _ _) ?_
      iterate 24 (go_big_quiet_step ((first | (with_reducible exact Lat.call (HD1.out _)) | (with_reducible exact Lat.call (HD2.out _)))))
      refine wpQuiet_nil ?_
      rintro _ ⟨i, rfl⟩
      have B5 := Lib.hid i.h
      go_wp2_with (fail)
      go_roundw
      case rel => exact ⟨k + 1, by go_num, by omega, by rw [HTT.out]; simp only [ByteArray.append_assoc], HBW.out.trans (B5.out.mono HWS.out)⟩
      case measure => show us.length - ((k : Int) + 1).toNat < us.length - (k : Int).toNat; omega
    · have hd : decide ((k : Int) < us.length) = false := by simp; omega
      go_wp2
      go_ret
      have e : us.take k = us := List.take_of_length_le (by omega)
      rw [e]
      exact ⟨rfl, HB.out⟩
end Go.Proofs.YtkgbldkjpohinaaGreatDoor
