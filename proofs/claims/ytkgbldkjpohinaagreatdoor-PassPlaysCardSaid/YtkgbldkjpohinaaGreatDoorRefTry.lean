/- The reference's book: Try. -/
import Derived.Test.YtkgbldkjpohinaaGreatDoorMRefA
import Derived.Test.YtkgbldkjpohinaaGreatDoorMSha
import Derived.Deep.CutBlock
import Derived.Deep.DeepCutAuto
import Derived.Test.YtkgbldkjpohinaaGreatDoorLat
namespace Go.Proofs.YtkgbldkjpohinaaGreatDoor
open Go.RowKit Go.Maps LatT
set_option linter.unusedVariables false
section
variable {B p : Nat} {W : World} {most wait : Int} {us : List RU} {fs : List RF}
theorem ref_user (h : RefSt B W p most wait us fs) {i : Nat} {u : RU} (hu : us[i]? = some u) : ∃ g cap, i < us.length ∧ ∀ W', Below W.heap.size W W' → W'.cell? ⟨p, 2, none⟩ = some (.slice (some ⟨g, 0, none⟩) us.length cap) ∧ (∀ j, j < 5 → W'.cell? ⟨g, i * 5 + j, none⟩ = (uCells u)[j]?) ∧ g < W'.heap.size := by
  obtain ⟨hi, rfl⟩ := List.getElem?_eq_some_iff.1 hu
  obtain ⟨vu, vf, h1, h2, h3⟩ := h.at_
  obtain ⟨g, cap, rfl, hBg, hcap, hmx, ⟨cur, hg⟩, hc⟩ := ownU_row h2 hi
  have hgl := (Array.getElem?_eq_some_iff.1 hg).1
  have hpl := (Array.getElem?_eq_some_iff.1 h1).1
  refine ⟨g, cap, hi, fun W' hb => ⟨?_, fun j hj => ?_, Nat.lt_of_lt_of_le hgl hb.size⟩⟩
  · rw [hb.cell (p := ⟨p, 2, none⟩) hpl, cell_of_row W p 2 _ 51 (0, 0) h1]; rfl
  · rw [hb.cell (p := ⟨g, i * 5 + j, none⟩) hgl, hc j hj]
theorem ref_fail (h : RefSt B W p most wait us fs) {i : Nat} {f : RF} (hu : fs[i]? = some f) : ∃ g cap, i < fs.length ∧ ∀ W', Below W.heap.size W W' → W'.cell? ⟨p, 3, none⟩ = some (.slice (some ⟨g, 0, none⟩) fs.length cap) ∧ (∀ j, j < 3 → W'.cell? ⟨g, i * 3 + j, none⟩ = (fCells f)[j]?) ∧ g < W'.heap.size := by
  obtain ⟨hi, rfl⟩ := List.getElem?_eq_some_iff.1 hu
  obtain ⟨vu, vf, h1, h2, h3⟩ := h.at_
  obtain ⟨g, cap, rfl, hBg, hcap, hmx, ⟨cur, hg⟩, hc⟩ := ownF_row h3 hi
  have hgl := (Array.getElem?_eq_some_iff.1 hg).1
  have hpl := (Array.getElem?_eq_some_iff.1 h1).1
  refine ⟨g, cap, hi, fun W' hb => ⟨?_, fun j hj => ?_, Nat.lt_of_lt_of_le hgl hb.size⟩⟩
  · rw [hb.cell (p := ⟨p, 3, none⟩) hpl, cell_of_row W p 3 _ 51 (0, 0) h1]; rfl
  · rw [hb.cell (p := ⟨g, i * 3 + j, none⟩) hgl, hc j hj]
theorem ref_nums (h : RefSt B W p most wait us fs) (W' : World) (hb : Below W.heap.size W W') : W'.cell? ⟨p, 0, none⟩ = some (.int .i64 most) ∧ W'.cell? ⟨p, 1, none⟩ = some (.int .i64 wait) := by
  obtain ⟨vu, vf, h1, h2, h3⟩ := h.at_
  have hpl := (Array.getElem?_eq_some_iff.1 h1).1
  refine ⟨?_, ?_⟩
  · rw [hb.cell (p := ⟨p, 0, none⟩) hpl, cell_of_row W p 0 _ 51 (0, 0) h1]; rfl
  · rw [hb.cell (p := ⟨p, 1, none⟩) hpl, cell_of_row W p 1 _ 51 (0, 0) h1]; rfl
end
theorem setL_len (fs : List RF) (name : ByteArray) (n now : Int) : (setL fs name n now).length ≤ fs.length + 1 := by
  unfold setL
  rw [List.length_append]
  have := List.length_filter_le (fun f : RF => !decide (f.name = name)) fs
  split <;> simp <;> omega
theorem setL_len0 (fs : List RF) (name : ByteArray) (now : Int) : (setL fs name 0 now).length ≤ fs.length := by
  unfold setL
  rw [if_neg (by omega), List.append_nil]
  exact List.length_filter_le _ fs
structure FOk (fs : List RF) : Prop where
  n1 : ∀ f ∈ fs, 1 ≤ f.n ∧ f.n ≤ 9
  t0 : ∀ f ∈ fs, 0 ≤ f.last ∧ f.last ≤ 9223372036854775807
theorem FOk.set0 {fs : List RF} (h : FOk fs) (name : ByteArray) (now : Int) : FOk (setL fs name 0 now) := by
  have hs : ∀ f ∈ setL fs name 0 now, f ∈ fs := fun f hf => by
    unfold setL at hf
    rw [if_neg (by omega), List.append_nil] at hf
    exact (List.mem_filter.1 hf).1
  exact ⟨fun f hf => h.n1 f (hs f hf), fun f hf => h.t0 f (hs f hf)⟩
def lockR (most wait : Int) (fs : List RF) (name : ByteArray) (now : Int) : Option (List RF) :=
  match findF fs name with
  | none => some fs
  | some f => if most ≤ f.n then (if now - f.last < wait then none else some (setL fs name 0 0)) else some fs
theorem tryR_lock (most wait : Int) (us : List RU) (fs : List RF) (name text : ByteArray) (now : Int) (h0 : ¬ (now < 0 ∨ 64 < text.size)) :
    tryR most wait us fs name text now = match lockR most wait fs name now with | none => ((0, 80), fs) | some fs' => tryGo us fs' name text now := by
  unfold tryR lockR
  rw [if_neg h0]
  cases findF fs name with
  | none => rfl
  | some f =>
    simp only
    by_cases h1 : most ≤ f.n
    · rw [if_pos h1, if_pos h1]
      by_cases h2 : now - f.last < wait
      · rw [if_pos h2, if_pos h2]
      · rw [if_neg h2, if_neg h2]
    · rw [if_neg h1, if_neg h1]
def TryR (B : Nat) (w : World) (p : Nat) (most wait : Int) (us : List RU) (r : (Int × Int) × List RF) (e : Ending) (w' : World) : Prop :=
  e = .returned (.tuple #[.int .i64 r.1.1, .int .i64 r.1.2]) ∧ RefSt B w' p most wait us r.2 ∧ Fr RefM w w' ∧ Below B w w'
set_option maxRecDepth 100000 in
set_option maxHeartbeats 16000000 in
theorem r_try {B p : Nat} {w : World} {most wait : Int} {us : List RU} {fs : List RF} (h : RefSt B w p most wait us fs) (name text : ByteArray) (now : Int) (hB : B ≤ w.heap.size) (hl : us.length < 1000) (hfl : fs.length < 1000) (hw : 1 ≤ wait) (hok : FOk fs) (hn : now ≤ 9223372036854775807) (hsalt : ∀ u ∈ us, u.salt.size ≤ 16) :
    Calls Tryz.prog 10 #[.pointer (some ⟨p, 0, none⟩), .string name, .string text, .int .i64 now] w (TryR B w p most wait us (tryR most wait us fs name text now)) := by
  by_cases hneg : now < 0
  · have d0 : decide (now < 0) = true := decide_eq_true hneg
    have hr : tryR most wait us fs name text now = ((0, 1), fs) := by unfold tryR; rw [if_pos (.inl hneg)]
    rw [hr]
    have H := Lib.hid h
    clear h hr hneg
    go_enter Tryz.func10, Tryz.ntmps10
    go_wp2
    go_ret2
    exact ⟨rfl, H.out, Fr.refl _ _, Below.refl _ _⟩
  by_cases hlong : 64 < text.size
  · have d0 : decide (now < 0) = false := decide_eq_false hneg
    have d1 : decide ((text.size : Int) > 64) = true := decide_eq_true (by omega)
    have hr : tryR most wait us fs name text now = ((0, 1), fs) := by unfold tryR; rw [if_pos (.inr hlong)]
    rw [hr]
    have H := Lib.hid h
    clear h hr hneg hlong
    go_enter Tryz.func10, Tryz.ntmps10
    go_wp2
    go_ret2
    exact ⟨rfl, H.out, Fr.refl _ _, Below.refl _ _⟩
  have d0 : decide (now < 0) = false := decide_eq_false hneg
  have d1 : decide ((text.size : Int) > 64) = false := decide_eq_false (by omega)
  rw [tryR_lock most wait us fs name text now (by omega)]
  have H := Lib.hid h
  have HF := Lib.hid (r_failed h name (by omega))
  obtain ⟨c0, c1⟩ := ref_nums h w (Below.refl _ _)
  have HOK := Lib.hid hok
  have HS := Lib.hid hsalt
  clear h hok hsalt
  obtain ⟨L, hL⟩ : ∃ L, L = lockR most wait fs name now := ⟨_, rfl⟩
  rw [← hL]
  have HL := Lib.hid hL
  clear hL
  go_enter Tryz.func10, Tryz.ntmps10
  go_upto_region 4 with (go_at_call 23; refine HF.out.mono ?_; rintro e w1 ⟨r, rfl, hr, rfl⟩)
  obtain ⟨c, hc⟩ : ∃ c : Bool, c = (match findF fs name with | some f => decide (most ≤ f.n) | none => false) := ⟨_, rfl⟩
  have HC := Lib.hid hc
  clear hc
  have HR := Lib.hid hr
  clear hr
  go_cut [40] (fun v40 wx => v40 = .bool c ∧ Below w1.heap.size w1 wx)
  case first =>
    rcases HR.out with ⟨i, f, rfl, hi, hnm, hf, _⟩ | ⟨rfl, hf⟩
    · obtain ⟨g, cap, hil, hc3⟩ := ref_fail H.out hi
      obtain ⟨c3, cf, _⟩ := hc3 w1 (Below.refl _ _)
      have cf1 : w1.cell? ⟨g, i * 3 + 1, none⟩ = some (.int .i64 f.n) := cf 1 (by omega)
      have hcc : decide (f.n ≥ most) = c := by rw [HC.out]; unfold findF; rw [hf]
      have HI := Lib.hid hi
      have HF2 := Lib.hid hf
      have HN := Lib.hid hnm
      clear hi hf hnm hc3 cf
      have di : decide ((i : Int) ≥ 0) = true := decide_eq_true (by omega)
      have dil : decide ((i : Int) < fs.length) = true := decide_eq_true (by omega)
      go_quiet (fail)
      go_wp2
      go_meet
      case rel => exact ⟨by first | rfl | (cases c <;> rfl), below_drawn (Below.refl _ _) _⟩
    · have hcc : c = false := by rw [HC.out]; unfold findF; rw [hf]
      subst hcc
      clear hf
      go_quiet (fail)
      go_wp2
      go_meet
      case rel => exact ⟨rfl, below_drawn (Below.refl _ _) _⟩
  case rest =>
    obtain ⟨rfl, hbc⟩ := hcut
    go_upto_if 40 with (fail)
    have HBC := Lib.hid hbc
    clear hbc
    go_cut [] (fun wx => ∃ fs', L = some fs' ∧ RefSt B wx p most wait us fs' ∧ fs'.length < 1000 ∧ FOk fs' ∧ Fr RefM w1 wx ∧ Below B w1 wx)
    case first =>
      cases c with
      | false =>
        have hL2 : L = some fs := by
          have h1 := HC.out
          rw [HL.out]
          unfold lockR
          cases hf : findF fs name with
          | none => rfl
          | some f =>
            rw [hf] at h1
            have h2 : ¬ most ≤ f.n := by simpa using h1.symm
            simp only
            rw [if_neg h2]
        have HL2 := Lib.hid hL2
        clear hL2
        go_wp2
        go_meet
        case rel => exact ⟨fs, HL2.out, H.out.keep HBC.out, hfl, HOK.out, Fr.of_below HBC.out, HBC.out.mono hB⟩
      | true =>
        rcases HR.out with ⟨i, f, rfl, hi, hnm, hf, _⟩ | ⟨rfl, hf⟩
        · have hmost : most ≤ f.n := by
            have h1 := HC.out
            unfold findF at h1
            rw [hf] at h1
            simpa using h1.symm
          have hf' : findF fs name = some f := hf
          have hmem := (findF_some hf').1
          obtain ⟨l0, l1⟩ := HOK.out.t0 f hmem
          obtain ⟨g, cap, hil, hc3⟩ := ref_fail H.out hi
          obtain ⟨c3, cf, _⟩ := hc3 wc HBC.out
          have cf2 : wc.cell? ⟨g, i * 3 + 2, none⟩ = some (.int .i64 f.last) := cf 2 (by omega)
          obtain ⟨_, c1w⟩ := ref_nums H.out wc HBC.out
          have HM := Lib.hid hmost
          have HFF := Lib.hid hf'
          clear hi hf hf' hnm hmem hc3 cf hmost
          have dil : decide ((i : Int) < fs.length) = true := decide_eq_true (by omega)
          have dneg : (0 : Int) ≤ now := by omega
          by_cases hlk : now - f.last < wait
          · have hL2 : L = none := by
              rw [HL.out]; unfold lockR; rw [HFF.out]; simp only; rw [if_pos HM.out, if_pos hlk]
            have d3 : decide (now - f.last < wait) = true := decide_eq_true hlk
            subst hL2
            clear hlk
            by_cases hlt : now < f.last
            · have d2 : decide (now < f.last) = true := decide_eq_true hlt
              clear hlt
              go_wp2
              go_quiet (fail)
              go_wp2
              go_ret2
              exact ⟨rfl, H.out.keep (below_drawn HBC.out _), Fr.of_below (below_drawn HBC.out _), (below_drawn HBC.out _).mono hB⟩
            · have d2 : decide (now < f.last) = false := decide_eq_false hlt
              have hr1 : -9223372036854775808 ≤ now - f.last := by omega
              have hr2 : now - f.last ≤ 9223372036854775807 := by omega
              clear hlt
              go_wp2
              go_quiet (fail)
              go_wp2
              go_ret2
              exact ⟨rfl, H.out.keep (below_drawn HBC.out _), Fr.of_below (below_drawn HBC.out _), (below_drawn HBC.out _).mono hB⟩
          · have hL2 : L = some (setL fs name 0 0) := by
              rw [HL.out]; unfold lockR; rw [HFF.out]; simp only; rw [if_pos HM.out, if_neg hlk]
            have HL2 := Lib.hid hL2
            have d3 : decide (now - f.last < wait) = false := decide_eq_false hlk
            have d2 : decide (now < f.last) = false := decide_eq_false (by omega)
            have hr1 : -9223372036854775808 ≤ now - f.last := by omega
            have hr2 : now - f.last ≤ 9223372036854775807 := by omega
            clear hlk hL2
            go_wp2
            go_quiet (fail)
            go_wp2_with (go_at_call 24; refine (r_set (H.out.keep (below_drawn HBC.out _)) name 0 0 (by omega)).mono ?_; rintro e w5 ⟨⟨v, rfl⟩, k1, k2, k3⟩)
            go_meet
            case rel => exact ⟨_, HL2.out, k1, Nat.lt_of_le_of_lt (setL_len0 fs name 0) hfl, HOK.out.set0 name 0, (Fr.of_below (below_drawn HBC.out _)).trans k2, ((below_drawn HBC.out _).mono hB).trans k3⟩
        · exfalso
          have h1 := HC.out
          unfold findF at h1
          rw [hf] at h1
          cases h1
    case rest =>
      obtain ⟨fs', hL2, k1, k2, kok, k3, k4⟩ := hcut
      subst hL2
      have K1 := Lib.hid k1
      have K3 := Lib.hid k3
      have K4 := Lib.hid k4
      have OK2 := Lib.hid kok
      have HU := Lib.hid (r_find k1 name (by omega))
      have HBC5 : Hid (B ≤ wc.heap.size) := Nat.le_trans hB k4.size
      clear k1 k3 k4 kok
      go_upto_region 9 with (go_at_call 19; refine HU.out.mono ?_; rintro e w2 ⟨r2, rfl, hr2, rfl⟩)
      rcases hr2 with ⟨i2, u, rfl, hi2, hun, huf, _⟩ | ⟨rfl, huf⟩
      · have huf2 : findU us name = some u := huf
        obtain ⟨g, cap, hil, hcu⟩ := ref_user K1.out hi2
        obtain ⟨cu2, cuf, _⟩ := hcu w2 (Below.refl _ _)
        have cu1 : w2.cell? ⟨g, i2 * 5 + 1, none⟩ = some (.string u.salt) := cuf 1 (by omega)
        have cu3 : w2.cell? ⟨g, i2 * 5 + 3, none⟩ = some (.int .i64 u.times) := cuf 3 (by omega)
        have hss : u.salt.size ≤ 16 := HS.out u (findU_some huf2).1
        have hts : text.size ≤ 64 := by omega
        have di : decide ((i2 : Int) ≥ 0) = true := decide_eq_true (by omega)
        have dil : decide ((i2 : Int) < us.length) = true := decide_eq_true (by omega)
        have HCU := Lib.hid hcu
        have HUF := Lib.hid huf2
        have HI2 := Lib.hid hi2
        have L2 : ∀ i : Lat w2, i.w.cell? ⟨p, 2, none⟩ = some (.slice (some ⟨g, 0, none⟩) us.length cap) := fun i => (hcu _ i.h).1
        have L21 : ∀ i : Lat w2, i.w.cell? ⟨g, i2 * 5 + 1, none⟩ = some (.string u.salt) := fun i => (hcu _ i.h).2.1 1 (by omega)
        have L22 : ∀ i : Lat w2, i.w.cell? ⟨g, i2 * 5 + 2, none⟩ = some (.string u.hash) := fun i => (hcu _ i.h).2.1 2 (by omega)
        have L23 : ∀ i : Lat w2, i.w.cell? ⟨g, i2 * 5 + 3, none⟩ = some (.int .i64 u.times) := fun i => (hcu _ i.h).2.1 3 (by omega)
        clear hi2 hun huf huf2 hcu cuf cu2 cu1 cu3
        obtain ⟨hh, hhe⟩ : ∃ hh, hh = strOfNums (hexL (stretchL (bytesOf u.salt) (bytesOf text) (min (max u.times 0) 1000).toNat)) := ⟨_, rfl⟩
        have HST : Hid (∀ w', Below w2.heap.size w2 w' → Calls Tryz.prog 21 #[.string u.salt, .string text, .int .i64 u.times] w' fun e w'' => e = .returned (.string hh) ∧ Below w'.heap.size w' w'') := fun w' _ => by rw [hhe]; exact refstretch_any u.salt text u.times w' (by omega)
        by_cases hq : hh = u.hash
        · have hT : tryGo us fs' name text now = ((u.tag, 0), setL fs' name 0 0) := by
            unfold tryGo; rw [HUF.out]; simp only; rw [if_pos (by rw [← hq, hhe]; rfl)]
          have hqt : (hh.toList == u.hash.toList) = true := by rw [hq]; simp
          have HT := Lib.hid hT
          clear hT hq hhe hts hss
          go_cut [104] (fun v wx => v = .bool true ∧ Below w2.heap.size w2 wx)
          case first =>
            refine wp_region_lat (W := w2) (by kernel_rfl) (by kernel_rfl) (Below.refl _ _) ?_
            iterate 31 (go_big_quiet_step ((first | (with_reducible exact Lat.call (HST.out _ (Lat.h _))))))
            refine wpQuiet_nil ?_
            rintro _ ⟨i, rfl⟩
            have B5 := Lib.hid i.h
            go_wp2_with (fail)
            go_meet
            case rel => exact ⟨rfl, B5.out⟩
          case rest =>
            obtain ⟨rfl, hb⟩ := hcut
            have B5 := Lib.hid hb
            have K5 := Lib.hid (K1.out.keep hb)
            clear hb
            go_wp2_with (go_at_call 24; refine (r_set K5.out name 0 0 (by omega)).mono ?_; rintro e w6 ⟨⟨v, rfl⟩, m1, m2, m3⟩; have M1 := Lib.hid m1; have M2 := Lib.hid m2; have M3 := Lib.hid m3; clear m1 m2 m3; obtain ⟨g6, cap6, _, hcu6⟩ := ref_user M1.out HI2.out; obtain ⟨cu6, cuf6, _⟩ := hcu6 w6 (Below.refl _ _); have cu64 : w6.cell? ⟨g6, i2 * 5 + 4, none⟩ = some (.int .i64 u.tag) := cuf6 4 (by omega); clear hcu6 cuf6)
            go_ret2
            rw [HT.out]
            exact ⟨rfl, M1.out, K3.out.trans ((Fr.of_below B5.out).trans M2.out), K4.out.trans ((B5.out.mono HBC5.out).trans M3.out)⟩
        · have hT : tryGo us fs' name text now = ((0, 79), setL fs' name (cnt fs' name + 1) now) := by
            unfold tryGo; rw [HUF.out]; simp only; rw [if_neg (fun e => hq (by rw [hhe]; exact e))]
          have hqf : (hh.toList == u.hash.toList) = false := beq_false_of hq
          have HT := Lib.hid hT
          clear hT hq hhe hts hss
          go_cut [104] (fun v wx => v = .bool false ∧ Below w2.heap.size w2 wx)
          case first =>
            refine wp_region_lat (W := w2) (by kernel_rfl) (by kernel_rfl) (Below.refl _ _) ?_
            iterate 31 (go_big_quiet_step ((first | (with_reducible exact Lat.call (HST.out _ (Lat.h _))))))
            refine wpQuiet_nil ?_
            rintro _ ⟨i, rfl⟩
            have B5 := Lib.hid i.h
            go_wp2_with (fail)
            go_meet
            case rel => exact ⟨rfl, B5.out⟩
          case rest =>
            obtain ⟨rfl, hb⟩ := hcut
            have B5 := Lib.hid hb
            have K5 := Lib.hid (K1.out.keep hb)
            clear hb
            have HG := Lib.hid (r_failed K5.out name (by omega))
            go_upto_region 14 with (go_at_call 23; refine HG.out.mono ?_; rintro e w7 ⟨r3, rfl, hr3, rfl⟩)
            have HR3 := Lib.hid hr3
            clear hr3
            rcases HR3.out with ⟨j, f, rfl, hj, hfn, hff, _⟩ | ⟨rfl, hff⟩
            · have hcnt : cnt fs' name = f.n := by unfold cnt findF; rw [hff]
              have hmem : f ∈ fs' := List.mem_of_getElem? hj
              obtain ⟨n1, n9⟩ := OK2.out.n1 f hmem
              obtain ⟨g2, cap2, hjl, hc4⟩ := ref_fail K5.out hj
              obtain ⟨c4, cf, _⟩ := hc4 w7 (Below.refl _ _)
              have cf1 : w7.cell? ⟨g2, j * 3 + 1, none⟩ = some (.int .i64 f.n) := cf 1 (by omega)
              rw [hcnt] at HT
              clear hj hfn hff hmem hc4 cf hcnt
              have djl : decide ((j : Int) < fs'.length) = true := decide_eq_true (by omega)
              have dj : decide ((j : Int) ≥ 0) = true := decide_eq_true (by omega)
              have dn : decide (f.n > 0) = true := decide_eq_true (by omega)
              have HT2 : Hid ((tryGo us fs' name text now) = ((0, 79), setL fs' name (f.n + 1) now)) := HT
              go_wp2_with (go_at_call 24; refine (r_set K5.out name (f.n + 1) now (by omega)).mono ?_; rintro e w6 ⟨⟨v, rfl⟩, m1, m2, m3⟩; have M1 := Lib.hid m1; have M2 := Lib.hid m2; have M3 := Lib.hid m3; clear m1 m2 m3)
              go_ret2
              rw [HT.out]
              exact ⟨rfl, M1.out, K3.out.trans ((Fr.of_below B5.out).trans M2.out), K4.out.trans ((B5.out.mono HBC5.out).trans M3.out)⟩
            · have hcnt : cnt fs' name = 0 := by unfold cnt findF; rw [hff]
              rw [hcnt, Int.zero_add] at HT
              clear hff hcnt
              go_wp2_with (go_at_call 24; refine (r_set K5.out name 1 now (by omega)).mono ?_; rintro e w6 ⟨⟨v, rfl⟩, m1, m2, m3⟩; have M1 := Lib.hid m1; have M2 := Lib.hid m2; have M3 := Lib.hid m3; clear m1 m2 m3)
              go_ret2
              rw [HT.out]
              exact ⟨rfl, M1.out, K3.out.trans ((Fr.of_below B5.out).trans M2.out), K4.out.trans ((B5.out.mono HBC5.out).trans M3.out)⟩
      · have hT : tryGo us fs' name text now = if 0 < cnt fs' name ∨ strangersL us fs' < 9 then ((0, 79), setL fs' name (cnt fs' name + 1) now) else ((0, 79), fs') := by
          have huf2 : findU us name = none := huf
          unfold tryGo; rw [huf2]
        have HT := Lib.hid hT
        clear hT huf
        go_cut [104] (fun v wx => v = .bool false ∧ Below w2.heap.size w2 wx)
        case first =>
          go_quiet (fail)
          go_wp2
          go_meet
          case rel => exact ⟨rfl, below_drawn (Below.refl _ _) _⟩
        case rest =>
          obtain ⟨rfl, hb⟩ := hcut
          have B5 := Lib.hid hb
          have K5 := Lib.hid (K1.out.keep hb)
          clear hb
          have HG := Lib.hid (r_failed K5.out name (by omega))
          go_upto_region 14 with (go_at_call 23; refine HG.out.mono ?_; rintro e w7 ⟨r3, rfl, hr3, rfl⟩)
          have HR3 := Lib.hid hr3
          clear hr3
          rcases HR3.out with ⟨j, f, rfl, hj, hfn, hff, _⟩ | ⟨rfl, hff⟩
          · have hcnt : cnt fs' name = f.n := by unfold cnt findF; rw [hff]
            have hmem : f ∈ fs' := List.mem_of_getElem? hj
            obtain ⟨n1, n9⟩ := OK2.out.n1 f hmem
            obtain ⟨g2, cap2, hjl, hc4⟩ := ref_fail K5.out hj
            obtain ⟨c4, cf, _⟩ := hc4 w7 (Below.refl _ _)
            have cf1 : w7.cell? ⟨g2, j * 3 + 1, none⟩ = some (.int .i64 f.n) := cf 1 (by omega)
            rw [hcnt] at HT
            clear hj hfn hff hmem hc4 cf hcnt
            have djl : decide ((j : Int) < fs'.length) = true := decide_eq_true (by omega)
            have dj : decide ((j : Int) ≥ 0) = true := decide_eq_true (by omega)
            have dn : decide (f.n > 0) = true := decide_eq_true (by omega)
            have hT2 : tryGo us fs' name text now = ((0, 79), setL fs' name (f.n + 1) now) := by rw [HT.out, if_pos (.inl (by omega))]
            have HT3 := Lib.hid hT2
            clear hT2
            go_wp2_with (go_at_call 24; refine (r_set K5.out name (f.n + 1) now (by omega)).mono ?_; rintro e w6 ⟨⟨v, rfl⟩, m1, m2, m3⟩; have M1 := Lib.hid m1; have M2 := Lib.hid m2; have M3 := Lib.hid m3; clear m1 m2 m3)
            go_ret2
            rw [HT3.out]
            exact ⟨rfl, M1.out, K3.out.trans ((Fr.of_below B5.out).trans M2.out), K4.out.trans ((B5.out.mono HBC5.out).trans M3.out)⟩
          · have hcnt : cnt fs' name = 0 := by unfold cnt findF; rw [hff]
            rw [hcnt, Int.zero_add] at HT
            clear hff hcnt
            have HST := Lib.hid (r_strangers K5.out (by omega) (by omega))
            by_cases hst : strangersL us fs' < 9
            · have hT2 : tryGo us fs' name text now = ((0, 79), setL fs' name 1 now) := by rw [HT.out, if_pos (.inr hst)]
              have HT3 := Lib.hid hT2
              have dst : decide ((strangersL us fs' : Int) < 9) = true := decide_eq_true (by omega)
              clear hT2 hst
              go_wp2_with (first | (go_at_call 25; refine HST.out.mono ?_; rintro e w8 ⟨rfl, rfl⟩) | (go_at_call 24; refine (r_set K5.out name 1 now (by omega)).mono ?_; rintro e w6 ⟨⟨v, rfl⟩, m1, m2, m3⟩; have M1 := Lib.hid m1; have M2 := Lib.hid m2; have M3 := Lib.hid m3; clear m1 m2 m3))
              go_ret2
              rw [HT3.out]
              exact ⟨rfl, M1.out, K3.out.trans ((Fr.of_below B5.out).trans M2.out), K4.out.trans ((B5.out.mono HBC5.out).trans M3.out)⟩
            · have hT2 : tryGo us fs' name text now = ((0, 79), fs') := by rw [HT.out, if_neg (by omega)]
              have HT3 := Lib.hid hT2
              have dst : decide ((strangersL us fs' : Int) < 9) = false := decide_eq_false (by omega)
              clear hT2 hst
              go_wp2_with (go_at_call 25; refine HST.out.mono ?_; rintro e w8 ⟨rfl, rfl⟩)
              go_ret2
              rw [HT3.out]
              exact ⟨rfl, K5.out, K3.out.trans (Fr.of_below B5.out), K4.out.trans (B5.out.mono HBC5.out)⟩
end Go.Proofs.YtkgbldkjpohinaaGreatDoor
