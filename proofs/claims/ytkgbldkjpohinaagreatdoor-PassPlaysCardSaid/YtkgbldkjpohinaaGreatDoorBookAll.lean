/- (*Book).Try, of any book: as the plain law says. -/
import Derived.Test.YtkgbldkjpohinaaGreatDoorMCnt
import Derived.Test.YtkgbldkjpohinaaGreatDoorRefTry
namespace Go.Proofs.YtkgbldkjpohinaaGreatDoor
open Go.RowKit Go.Maps LatT
open Go.WideMaps (keyOf_string_mk)
set_option linter.unusedVariables false
def PTryR (w0 w : World) (b mu mf nu nf : Nat) (most wait : Int) (Du : DataW Unit) (r : (Int × Int) × List RF) (e : Ending) (w' : World) : Prop :=
  e = .returned (.tuple #[.int .i64 r.1.1, .int .i64 r.1.2]) ∧ ∃ (nf' : Nat) (Df' : DataW Unit), nf' ≤ nf + 1 ∧ BookSt w0 w' b mu mf most wait nu nf' Du Df' ∧ SimF Df' r.2 ∧ w.grownBy w' (some mf)
def PU (us : List RU) (name : ByteArray) : RU := (findU us name).getD ⟨name, ByteArray.empty, ByteArray.empty, 0, 0⟩
def PF (fs : List RF) (name : ByteArray) : RF := (findF fs name).getD ⟨name, 0, 0⟩
theorem at_user {D : DataW Unit} {us : List RU} (h : SimU D us) (name : ByteArray) : D.atKey (.string name.data.toList) noU = entD (PU us name).salt (PU us name).times (PU us name).hash (PU us name).tag := by
  have := h.at name noU
  unfold PU
  rw [show (Lit.string name.data.toList) = key name from rfl, this]
  cases findU us name <;> rfl
theorem at_fail {D : DataW Unit} {fs : List RF} (h : SimF D fs) (name : ByteArray) : D.atKey (.string name.data.toList) noF = failD (PF fs name).n (PF fs name).last := by
  have := h.at name noF
  unfold PF
  rw [show (Lit.string name.data.toList) = key name from rfl, this]
  cases findF fs name <;> rfl
theorem fok_pf {fs : List RF} (h : FOk fs) (name : ByteArray) : 0 ≤ (PF fs name).n ∧ (PF fs name).n ≤ 9 ∧ 0 ≤ (PF fs name).last ∧ (PF fs name).last ≤ 9223372036854775807 := by
  unfold PF
  cases hf : findF fs name with
  | none => simp
  | some f =>
    have hm := (findF_some hf).1
    have h1 := h.n1 f hm
    have h2 := h.t0 f hm
    simp only [Option.getD_some]
    omega
def lockC (most wait : Int) (c t now : Int) : Option Int := if most ≤ c then (if now - t < wait then none else some 0) else some c
theorem lockR_C (most wait : Int) (fs : List RF) (name : ByteArray) (now : Int) (h1 : 1 ≤ most) :
    (lockR most wait fs name now = none ∧ lockC most wait (PF fs name).n (PF fs name).last now = none) ∨
    (∃ fs' c', lockR most wait fs name now = some fs' ∧ lockC most wait (PF fs name).n (PF fs name).last now = some c' ∧ c' = cnt fs' name ∧ (fs' = fs ∨ (fs' = setL fs name 0 0 ∧ (findF fs name).isSome = true ∧ c' = 0))) := by
  unfold lockR lockC PF
  cases hf : findF fs name with
  | none =>
    right
    refine ⟨fs, 0, rfl, ?_, ?_, .inl rfl⟩
    · simp only [Option.getD_none]; rw [if_neg (by omega)]
    · unfold cnt; rw [hf]
  | some f =>
    simp only [Option.getD_some]
    by_cases h2 : most ≤ f.n
    · rw [if_pos h2, if_pos h2]
      by_cases h3 : now - f.last < wait
      · rw [if_pos h3, if_pos h3]; exact .inl ⟨rfl, rfl⟩
      · rw [if_neg h3, if_neg h3]
        refine .inr ⟨_, 0, rfl, rfl, ?_, .inr ⟨rfl, rfl, rfl⟩⟩
        unfold cnt
        have : findF (setL fs name 0 0) name = none := by
          unfold findF setL
          rw [if_neg (by omega), List.append_nil, List.find?_eq_none]
          intro x hx
          have := (List.mem_filter.1 hx).2
          simpa using this
        rw [this]
    · rw [if_neg h2, if_neg h2]
      refine .inr ⟨fs, f.n, rfl, rfl, ?_, .inl rfl⟩
      unfold cnt; rw [hf]
theorem setL_setL (fs : List RF) (name : ByteArray) (n now n0 : Int) : setL (setL fs name 0 n0) name n now = setL fs name n now := by
  unfold setL
  rw [if_neg (by omega), List.append_nil, List.filter_filter]
  congr 1
  refine List.filter_congr fun x _ => ?_
  simp
theorem stranger_less {us : List RU} {fs : List RF} {name : ByteArray} (hu : findU us name = none) (hf : (findF fs name).isSome = true) : strangersL us (setL fs name 0 0) < strangersL us fs := by
  unfold strangersL setL
  rw [if_neg (by omega), List.append_nil, List.filter_filter]
  obtain ⟨f, hf⟩ := Option.isSome_iff_exists.1 hf
  obtain ⟨hm, hn⟩ := findF_some hf
  have h1 : (fs.filter fun a => (findU us a.name).isNone && !decide (a.name = name)).length < (fs.filter fun a => (findU us a.name).isNone).length := by
    rw [← List.countP_eq_length_filter, ← List.countP_eq_length_filter]
    have : ∀ l : List RF, f ∈ l → l.countP (fun a => (findU us a.name).isNone && !decide (a.name = name)) < l.countP fun a => (findU us a.name).isNone := by
      intro l
      induction l with
      | nil => intro h; cases h
      | cons x r ih =>
        intro h
        have hle : ∀ l : List RF, l.countP (fun a => (findU us a.name).isNone && !decide (a.name = name)) ≤ l.countP fun a => (findU us a.name).isNone := fun l => List.countP_mono_left fun a _ h => by simp at h; simp [h.1]
        rw [List.countP_cons, List.countP_cons]
        rcases List.mem_cons.1 h with rfl | h
        · have e : (findU us f.name).isNone = true := by rw [hn, hu]; rfl
          have := hle r
          simp only [hn, hu]
          simp
          omega
        · have := ih h
          by_cases e : (findU us x.name).isNone = true
          · simp only [e]
            split <;> simp <;> omega
          · simp [e]; omega
    exact this fs hm
  exact h1
/-- What a failure that is put down leaves. -/
theorem grown_fr {w w' : World} {mf nf : Nat} {Df : DataW Unit} (hf : w.ownsMap Tryz.prog 9 readF mf nf Df) (hg : w.grownBy w' (some mf)) : Fr MapM w w' := by
  obtain ⟨es, cl, h, _⟩ := hf
  exact Fr.of_grown hg fun o ho => by rw [h] at ho; cases ho; exact ⟨es, cl, rfl⟩
set_option maxRecDepth 100000 in
set_option maxHeartbeats 8000000 in
theorem p_try {w0 w : World} {b mu mf nu nf : Nat} {Du Df : DataW Unit} {most wait : Int} {us : List RU} {fs : List RF} (h : BookSt w0 w b mu mf most wait nu nf Du Df) (hsu : SimU Du us) (hsf : SimF Df fs) (name text : ByteArray) (now : Int) (h1 : 1 ≤ most) (hfl : fs.length < 1000) (hnf : nf < 100000) (hok : FOk fs) (hstr : strangersL us fs ≤ 9) (hn : now ≤ 9223372036854775807) (hnm : name.size ≤ maxLen) (hsalt : ∀ u ∈ us, u.salt.size ≤ 16) :
    Calls Tryz.prog 9 #[.pointer (some ⟨b, 0, none⟩), .string name, .string text, .int .i64 now] w (PTryR w0 w b mu mf nu nf most wait Du (tryR most wait us fs name text now)) := by
  have hgs : w.grownBy w (some mf) := ⟨rfl, rfl, rfl, Nat.le_refl _, fun _ _ _ => rfl⟩
  by_cases hneg : now < 0
  · have d0 : decide (now < 0) = true := decide_eq_true hneg
    have hr : tryR most wait us fs name text now = ((0, 1), fs) := by unfold tryR; rw [if_pos (.inl hneg)]
    rw [hr]
    have H := Lib.hid h
    clear h hr hneg
    go_enter Tryz.func9, Tryz.ntmps9
    go_wp2
    go_ret2
    exact ⟨rfl, nf, Df, by omega, H.out, hsf, hgs⟩
  by_cases hlong : 64 < text.size
  · have d0 : decide (now < 0) = false := decide_eq_false hneg
    have d1 : decide ((text.size : Int) > 64) = true := decide_eq_true (by omega)
    have hr : tryR most wait us fs name text now = ((0, 1), fs) := by unfold tryR; rw [if_pos (.inr hlong)]
    rw [hr]
    have H := Lib.hid h
    clear h hr hneg hlong
    go_enter Tryz.func9, Tryz.ntmps9
    go_wp2
    go_ret2
    exact ⟨rfl, nf, Df, by omega, H.out, hsf, hgs⟩
  have d0 : decide (now < 0) = false := decide_eq_false hneg
  have d1 : decide ((text.size : Int) > 64) = false := decide_eq_false (by omega)
  have hts : text.size ≤ 64 := by omega
  have hn0 : 0 ≤ now := by omega
  rw [tryR_lock most wait us fs name text now (by omega)]
  obtain ⟨pc0, pc9, pt0, ptm⟩ := fok_pf hok name
  have hatU := at_user hsu name
  have hatF := at_fail hsf name
  have hasU := hsu.has name
  have hasF := hsf.has name
  have hss : (PU us name).salt.size ≤ 16 := by
    unfold PU
    cases hu : findU us name with
    | none => exact Nat.zero_le _
    | some u => exact hsalt u (findU_some hu).1
  have hlk0 := lockR_C most wait fs name now h1
  obtain ⟨L, hLL⟩ : ∃ L, L = lockR most wait fs name now := ⟨_, rfl⟩
  rw [← hLL] at hlk0
  rw [← hLL]
  have HLOCK := Lib.hid hlk0
  clear hLL hlk0
  have HPU : Hid (∀ u, findU us name = some u → PU us name = u) := fun u hu => by unfold PU; rw [hu]; rfl
  obtain ⟨p, hp⟩ : ∃ p, p = (PU us name).salt := ⟨_, rfl⟩
  obtain ⟨tt, htt⟩ : ∃ p, p = (PU us name).times := ⟨_, rfl⟩
  obtain ⟨q, hq⟩ : ∃ p, p = (PU us name).hash := ⟨_, rfl⟩
  obtain ⟨i, hi⟩ : ∃ p, p = (PU us name).tag := ⟨_, rfl⟩
  obtain ⟨c, hc⟩ : ∃ p, p = (PF fs name).n := ⟨_, rfl⟩
  obtain ⟨t, ht⟩ : ∃ p, p = (PF fs name).last := ⟨_, rfl⟩
  rw [← hp, ← htt, ← hq, ← hi] at hatU
  rw [← hc, ← ht] at hatF HLOCK
  rw [← hc] at pc0 pc9
  rw [← ht] at pt0 ptm
  rw [← hp] at hss
  have HP4 := Lib.hid (And.intro hp (And.intro htt (And.intro hq hi)))
  obtain ⟨ok, hokb⟩ : ∃ ok, ok = (findU us name).isSome := ⟨_, rfl⟩
  obtain ⟨isb, hisb⟩ : ∃ ok, ok = (findF fs name).isSome := ⟨_, rfl⟩
  have hasU2 : Maps.has Du (.string name.data.toList) = ok := hasU.trans hokb.symm
  have hasF2 : Maps.has Df (.string name.data.toList) = isb := hasF.trans hisb.symm
  have HOKB := Lib.hid hokb
  have HISB := Lib.hid hisb
  have HST := Lib.hid h
  have HSU := Lib.hid hsu
  have HSF := Lib.hid hsf
  have HFOK := Lib.hid hok
  have hu := h.hu
  have hf := h.hf
  have hB := h.at_
  have c0 : w.cell? ⟨b, 0, none⟩ = some (.int .i64 most) := by rw [cell_of_row w b 0 _ 47 (0, 0) hB]; rfl
  have c2 : w.cell? ⟨b, 2, none⟩ = some (.map (some mu)) := by rw [cell_of_row w b 2 _ 47 (0, 0) hB]; rfl
  have c3 : w.cell? ⟨b, 3, none⟩ = some (.map (some mf)) := by rw [cell_of_row w b 3 _ 47 (0, 0) hB]; rfl
  have hlt : b < w.heap.size := (Array.getElem?_eq_some_iff.1 hB).1
  have HT := Lib.hid (tryW b mu mf nu nf Du Df most wait p q tt i c t w hB hu hf)
  have HU := Lib.hid hu
  have HF := Lib.hid hf
  have HAU := Lib.hid hatU
  have HAF := Lib.hid hatF
  obtain ⟨W, hW⟩ : ∃ W, W = ((w.alloc (Obj.cells #[.string p, .int .i64 tt, .string q, .int .i64 i] 53)).alloc (Obj.cells #[.int .i64 c, .int .i64 t] 63)) := ⟨_, rfl⟩
  rw [← hW] at HT
  clear hp htt hq hi hc ht hokb hisb hasU hasF hsu hsf hok hatU hatF h hu hf hB hsalt hneg hlong
  go_enter Tryz.func9, Tryz.ntmps9
  go_upto_region 5 with (first
    | (at_lookup; refine wpList_lookup_user _ rfl _ _ rfl mu nu Du rfl HU.out name rfl hnm ?_; intro p0 t0 q0 i0' hat0; obtain ⟨rfl, rfl, rfl, rfl⟩ := entD_inj (HAU.out.symm.trans hat0))
    | (at_lookup; refine wpList_lookup_fail _ rfl _ _ rfl mf nf Df rfl (HF.out.alloc _) name rfl hnm ?_; intro c0' t0' hat1; obtain ⟨rfl, rfl⟩ := failD_inj (HAF.out.symm.trans hat1)))
  rw [← hW]
  clear hW c0 c2 c3
  have ⟨hWb, hWs, u0, u1, u2, u3, f0, f1, ff, b0, b1, b3, hBW, huW, hfW⟩ := HT.out
  have HWB := Lib.hid hWb
  clear huW hfW hBW hWb
  obtain ⟨cB, hcB⟩ : ∃ x, x = decide (c ≥ most) := ⟨_, rfl⟩
  have hcB2 := hcB.symm
  have HCB := Lib.hid hcB
  clear hcB
  go_cut [45] (fun v wx => v = .bool cB ∧ Below W.heap.size W wx)
  case first =>
    go_quiet (fail)
    go_wp2
    go_meet
    case rel => exact ⟨rfl, below_drawn (Below.refl _ _) _⟩
  case rest =>
    obtain ⟨rfl, hbc⟩ := hcut
    have y0 : wc.cell? ⟨w.heap.size + 1, 0, none⟩ = some (.int .i64 c) := (hbc.cell (p := ⟨w.heap.size + 1, 0, none⟩) (by simp; omega)).trans f0
    have y1 : wc.cell? ⟨w.heap.size + 1, 1, none⟩ = some (.int .i64 t) := (hbc.cell (p := ⟨w.heap.size + 1, 1, none⟩) (by simp; omega)).trans f1
    have y0s : (wc.cell? ⟨w.heap.size + 1, 0, none⟩).isSome = true := by rw [y0]; rfl
    have Y0S := Lib.hid y0s
    clear y0s
    have yb : wc.cell? ⟨b, 1, none⟩ = some (.int .i64 wait) := (hbc.cell (p := ⟨b, 1, none⟩) (by simp; omega)).trans b1
    have yf : wc.frozen? ⟨w.heap.size + 1, 0, none⟩ = false := by
      rw [World.frozen?_of_block (hbc.block (w.heap.size + 1) (by omega))]; exact ff
    have HBC := Lib.hid hbc
    clear hcB2 hbc
    go_upto_if 45 with (fail)
    go_cut [] (fun wx => ∃ (fs' : List RF) (c' : Int), L = some fs' ∧ c' = cnt fs' name ∧ (fs' = fs ∨ (fs' = setL fs name 0 0 ∧ (findF fs name).isSome = true ∧ c' = 0)) ∧ wx.cell? ⟨w.heap.size + 1, 0, none⟩ = some (.int .i64 c') ∧ (c' = c ∨ c' = 0) ∧ Below (w.heap.size + 1) W wx)
    case first =>
      cases cB with
      | false =>
        have hL : lockC most wait c t now = some c := by
          unfold lockC; rw [if_neg]; intro e; have := HCB.out; rw [decide_eq_true e] at this; cases this
        have HL := Lib.hid hL
        clear hL
        go_wp2
        go_meet
        case rel =>
          rcases HLOCK.out with ⟨_, e2⟩ | ⟨fs', c', e1, e2, e3, e4⟩
          · rw [HL.out] at e2; cases e2
          · rw [HL.out] at e2
            obtain rfl := Option.some.inj e2
            exact ⟨fs', c, e1, e3, e4, y0, .inl rfl, HBC.out.mono (by omega)⟩
      | true =>
        have hm : most ≤ c := of_decide_eq_true HCB.out.symm
        have HM := Lib.hid hm
        have hr1 : -9223372036854775808 ≤ now - t := by omega
        have hr2 : now - t ≤ 9223372036854775807 := by omega
        clear hm
        by_cases hlk : now - t < wait
        · have hL : lockC most wait c t now = none := by unfold lockC; rw [if_pos HM.out, if_pos hlk]
          have hLn : L = none := by
            rcases HLOCK.out with ⟨e1, _⟩ | ⟨_, _, _, e2, _⟩
            · exact e1
            · rw [hL] at e2; cases e2
          subst hLn
          have d3 : decide (now - t < wait) = true := decide_eq_true hlk
          clear hL hlk
          go_wp2
          go_quiet (fail)
          go_wp2
          go_ret2
          have hbw : ∀ n, Below w.heap.size w (wc.drewN n) := fun n => HWB.out.trans ((below_drawn HBC.out n).mono (by omega))
          exact ⟨rfl, nf, Df, by omega, HST.out.keep (hbw _), HSF.out, grown_below (hbw _) _⟩
        · have hL : lockC most wait c t now = some 0 := by unfold lockC; rw [if_pos HM.out, if_neg hlk]
          have HL := Lib.hid hL
          have d3 : decide (now - t < wait) = false := decide_eq_false hlk
          clear hL hlk
          go_wp2
          go_quiet (fail)
          go_wp2
          go_meet
          case rel =>
            rcases HLOCK.out with ⟨_, e2⟩ | ⟨fs', c', e1, e2, e3, e4⟩
            · rw [HL.out] at e2; cases e2
            · rw [HL.out] at e2
              obtain rfl := Option.some.inj e2
              exact ⟨fs', 0, e1, e3, e4, World.cell?_setCell_same' _ _ _ Y0S.out, .inr rfl, ((below_drawn HBC.out _).mono (show w.heap.size + 1 ≤ W.heap.size by omega)).setCell (p := ⟨w.heap.size + 1, 0, none⟩) (Nat.le_refl _) _⟩
    case rest =>
      obtain ⟨fs', c', hL, hcn, hcase, z0, hcc, hbx⟩ := hcut
      subst hL
      have v0 : wc.cell? ⟨w.heap.size, 0, none⟩ = some (.string p) := (hbx.cell (p := ⟨w.heap.size, 0, none⟩) (by simp)).trans u0
      have v1 : wc.cell? ⟨w.heap.size, 1, none⟩ = some (.int .i64 tt) := (hbx.cell (p := ⟨w.heap.size, 1, none⟩) (by simp)).trans u1
      have v2 : wc.cell? ⟨w.heap.size, 2, none⟩ = some (.string q) := (hbx.cell (p := ⟨w.heap.size, 2, none⟩) (by simp)).trans u2
      have hWB3 : Below w.heap.size w wc := HWB.out.trans (hbx.mono (by omega))
      have hwcs : w.heap.size + 2 ≤ wc.heap.size := by have := hbx.size; omega
      have HWB3 := Lib.hid hWB3
      have HCN := Lib.hid hcn
      have HCASE := Lib.hid hcase
      have HFAR : Hid (∀ wx, Below wc.heap.size wc wx → wx.cell? ⟨w.heap.size, 3, none⟩ = some (.int .i64 i) ∧ wx.cell? ⟨w.heap.size + 1, 0, none⟩ = some (.int .i64 c') ∧ wx.cell? ⟨b, 3, none⟩ = some (.map (some mf)) ∧ BookAt wx b most wait mu mf ∧ wx.ownsMap Tryz.prog 9 readU mu nu Du ∧ wx.ownsMap Tryz.prog 9 readF mf nf Df ∧ Below w.heap.size w wx) := fun wx hx => by
        have hw3 : Below w.heap.size w wx := hWB3.trans (hx.mono hWB3.size)
        have hst := HST.out.keep hw3
        refine ⟨?_, ?_, ?_, hst.at_, hst.hu, hst.hf, hw3⟩
        · rw [hx.cell (p := ⟨w.heap.size, 3, none⟩) (by simp; omega), hbx.cell (p := ⟨w.heap.size, 3, none⟩) (by simp)]; exact u3
        · rw [hx.cell (p := ⟨w.heap.size + 1, 0, none⟩) (by simp; omega)]; exact z0
        · rw [cell_of_row wx b 3 _ 47 (0, 0) hst.at_]; rfl
      clear u0 u1 u2 u3 f0 f1 ff b0 b1 b3 y0 y1 yb yf z0 hbx hWB3 hcn hcase
      go_upto_region 9 with (fail)
      cases ok with
      | true =>
        obtain ⟨u, hu⟩ := Option.isSome_iff_exists.1 HOKB.out.symm
        have hpu := HPU.out u hu
        obtain ⟨e1, e2, e3, e4⟩ := HP4.out
        rw [hpu] at e1 e2 e3 e4
        have L0 : ∀ i : Lat wc, i.w.cell? ⟨w.heap.size, 0, none⟩ = some (.string p) := fun i => (i.h.cell (p := ⟨w.heap.size, 0, none⟩) (by simp; omega)).trans v0
        have L1 : ∀ i : Lat wc, i.w.cell? ⟨w.heap.size, 1, none⟩ = some (.int .i64 tt) := fun i => (i.h.cell (p := ⟨w.heap.size, 1, none⟩) (by simp; omega)).trans v1
        have L2 : ∀ i : Lat wc, i.w.cell? ⟨w.heap.size, 2, none⟩ = some (.string q) := fun i => (i.h.cell (p := ⟨w.heap.size, 2, none⟩) (by simp; omega)).trans v2
        obtain ⟨hh, hhe⟩ : ∃ hh, hh = strOfNums (hexL (stretchL (bytesOf p) (bytesOf text) (min (max tt 0) 1000).toNat)) := ⟨_, rfl⟩
        have HSTR : Hid (∀ w' : World, Calls Tryz.prog 17 #[.string p, .string text, .int .i64 tt] w' fun e w'' => e = .returned (.string hh) ∧ Below w'.heap.size w' w'') := fun w' => by rw [hhe]; exact stretch_any p text tt w' (by omega)
        have hhh : hh = hashOf u.salt text u.times := by rw [hhe, e1, e2]; rfl
        clear hpu
        by_cases hq2 : hh = q
        · have hTG : tryGo us fs' name text now = ((u.tag, 0), setL fs' name 0 0) := by
            unfold tryGo; rw [hu]; simp only; rw [if_pos (by rw [← hhh, hq2, e3])]
          have HTG := Lib.hid hTG
          have HE4 := Lib.hid e4
          have hqt : (hh.toList == q.toList) = true := by rw [hq2]; simp
          clear hTG hhe hhh e1 e2 e3 e4 hu hq2 v0 v1 v2
          go_cut [67] (fun v wx => v = .bool true ∧ Below wc.heap.size wc wx)
          case first =>
            refine wp_region_lat (W := wc) (by kernel_rfl) (by kernel_rfl) (Below.refl _ _) ?_
            iterate 12 (go_big_quiet_step ((first | (with_reducible exact Lat.call (HSTR.out _)))))
            refine wpQuiet_nil ?_
            rintro _ ⟨i, rfl⟩
            have B5 := Lib.hid i.h
            go_wp2_with (fail)
            go_meet
            case rel => exact ⟨rfl, B5.out⟩
          case rest =>
            obtain ⟨rfl, hb⟩ := hcut
            obtain ⟨s3, s0, sb, hBx, hux, hfx, hwx⟩ := HFAR.out _ hb
            have HWX := Lib.hid hwx
            have HFX := Lib.hid hfx
            have hszz := hb.size
            have hDel := SimF.del HSF.out name 0
            have HDEL := Lib.hid hDel
            have HSS : Hid (setL fs' name 0 0 = setL fs name 0 0) := by
              rcases HCASE.out with rfl | ⟨rfl, _, _⟩
              · rfl
              · exact setL_setL fs name 0 0 0
            clear hb hBx hux hfx hwx hDel
            go_wp2_with (at_delete; refine wpList_delete_own _ rfl _ _ 45 9 rfl 63 law9 und60 readF mf nf Df rfl HFX.out _ _ rfl (keyOf_string_mk und9 hnm) ?_; intro w4 hown4 hturn4; have u4 : w4.cell? ⟨w.heap.size, 3, none⟩ = some (.int .i64 i) := (World.cell?_of_block (hturn4.grown.block w.heap.size (by omega) (by have := HF.out.lt; simp; omega))).trans s3)
            go_ret2
            have hgg := (grown_below HWX.out (some mf)).trans hturn4.grown
            rw [HTG.out, HE4.out]
            exact ⟨rfl, nf, _, by omega, HST.out.grownF hown4 hgg, by rw [HSS.out]; exact HDEL.out, hgg⟩
        · have hTG : tryGo us fs' name text now = ((0, 79), setL fs' name (c' + 1) now) := by
            unfold tryGo; rw [hu]; simp only; rw [if_neg (fun e => hq2 (by rw [hhh, e, e3])), HCN.out]
          have HTG := Lib.hid hTG
          have hqf : (hh.toList == q.toList) = false := beq_false_of hq2
          have HSS : Hid (setL fs' name (c' + 1) now = setL fs name (c' + 1) now) := by
            rcases HCASE.out with rfl | ⟨rfl, _, _⟩
            · rfl
            · exact setL_setL fs name _ now 0
          clear hTG hhe hhh e1 e2 e3 e4 hu hq2 v0 v1 v2
          go_cut [67] (fun v wx => v = .bool false ∧ Below wc.heap.size wc wx)
          case first =>
            refine wp_region_lat (W := wc) (by kernel_rfl) (by kernel_rfl) (Below.refl _ _) ?_
            iterate 12 (go_big_quiet_step ((first | (with_reducible exact Lat.call (HSTR.out _)))))
            refine wpQuiet_nil ?_
            rintro _ ⟨i, rfl⟩
            have B5 := Lib.hid i.h
            go_wp2_with (fail)
            go_meet
            case rel => exact ⟨rfl, B5.out⟩
          case rest =>
            obtain ⟨rfl, hb⟩ := hcut
            obtain ⟨s3, s0, sb, hBx, hux, hfx, hwx⟩ := HFAR.out _ hb
            have HWX := Lib.hid hwx
            have HFX := Lib.hid hfx
            clear hb hBx hux hfx hwx
            go_wp2
            have hput := SimF.put HSF.out name (c' + 1) now (by omega)
            have HPUT := Lib.hid hput
            clear hput
            refine wp_region_quiet_sink 10 (by kernel_rfl) (by kernel_rfl) (by kernel_rfl) ?_
            simp only [List.take_succ_cons, List.take_zero, List.drop_succ_cons, List.drop_zero]
            repeat (go_big_quiet_step (fail))
            refine wpQuiet_nil ?_
            rintro _ ⟨nq, rfl⟩
            have hf4 : (wc.drewN nq).ownsMap Tryz.prog 9 readF mf nf Df := ownsMap_below HFX.out (⟨rfl, rfl, rfl, Nat.le_refl _, fun _ _ => rfl⟩ : Below wc.heap.size wc (wc.drewN nq)) HFX.out.lt
            obtain ⟨w9, hrun, hown9, hg9⟩ := hf4.update law9 und60 (by unfold maxLen; omega) (keyOf_string_mk und9 hnm) (show readF (.agg #[.int .i64 (c' + 1), .int .i64 now]) = some (failD (c' + 1) now, []) from rfl)
            go_wp2
            go_ret2
            have hgg := (grown_below (⟨HWX.out.os, HWX.out.tape, HWX.out.output, HWX.out.size, HWX.out.block⟩ : Below w.heap.size w (wc.drewN nq)) (some mf)).trans hg9
            rw [HTG.out]
            exact ⟨rfl, nf + 1, _, by omega, HST.out.grownF hown9 hgg, by rw [HSS.out]; exact HPUT.out, hgg⟩
      | false =>
        have huf : findU us name = none := by
          have := HOKB.out
          cases hu : findU us name with
          | none => rfl
          | some u => rw [hu] at this; cases this
        have HUF := Lib.hid huf
        clear huf v0 v1 v2
        go_cut [67] (fun v wx => v = .bool false ∧ Below wc.heap.size wc wx)
        case first =>
          go_quiet (fail)
          go_wp2
          go_meet
          case rel => exact ⟨rfl, below_drawn (Below.refl _ _) _⟩
        case rest =>
          obtain ⟨rfl, hb⟩ := hcut
          cases isb with
          | true =>
            have hsome : (findF fs name).isSome = true := HISB.out.symm
            have hgo : 0 < cnt fs' name ∨ strangersL us fs' < 9 := by
              rcases HCASE.out with rfl | ⟨rfl, _, _⟩
              · left
                obtain ⟨f, hf⟩ := Option.isSome_iff_exists.1 hsome
                have := HFOK.out.n1 f (findF_some hf).1
                unfold cnt; rw [hf]; simp only; omega
              · right
                have := stranger_less HUF.out hsome
                omega
            have hTG : tryGo us fs' name text now = ((0, 79), setL fs' name (c' + 1) now) := by
              unfold tryGo; rw [HUF.out]; simp only; rw [if_pos hgo, HCN.out]
            have HTG := Lib.hid hTG
            have HSS : Hid (setL fs' name (c' + 1) now = setL fs name (c' + 1) now) := by
              rcases HCASE.out with rfl | ⟨rfl, _, _⟩
              · rfl
              · exact setL_setL fs name _ now 0
            obtain ⟨s3, s0, sb, hBx, hux, hfx, hwx⟩ := HFAR.out _ hb
            have HWX := Lib.hid hwx
            have HFX := Lib.hid hfx
            clear hb hBx hux hfx hwx hTG hgo hsome
            go_wp2
            have hput := SimF.put HSF.out name (c' + 1) now (by omega)
            have HPUT := Lib.hid hput
            clear hput
            refine wp_region_quiet_sink 10 (by kernel_rfl) (by kernel_rfl) (by kernel_rfl) ?_
            simp only [List.take_succ_cons, List.take_zero, List.drop_succ_cons, List.drop_zero]
            repeat (go_big_quiet_step (fail))
            refine wpQuiet_nil ?_
            rintro _ ⟨nq, rfl⟩
            have hf4 : (wc.drewN nq).ownsMap Tryz.prog 9 readF mf nf Df := ownsMap_below HFX.out (⟨rfl, rfl, rfl, Nat.le_refl _, fun _ _ => rfl⟩ : Below wc.heap.size wc (wc.drewN nq)) HFX.out.lt
            obtain ⟨w9, hrun, hown9, hg9⟩ := hf4.update law9 und60 (by unfold maxLen; omega) (keyOf_string_mk und9 hnm) (show readF (.agg #[.int .i64 (c' + 1), .int .i64 now]) = some (failD (c' + 1) now, []) from rfl)
            go_wp2
            go_ret2
            have hgg := (grown_below (⟨HWX.out.os, HWX.out.tape, HWX.out.output, HWX.out.size, HWX.out.block⟩ : Below w.heap.size w (wc.drewN nq)) (some mf)).trans hg9
            rw [HTG.out]
            exact ⟨rfl, nf + 1, _, by omega, HST.out.grownF hown9 hgg, by rw [HSS.out]; exact HPUT.out, hgg⟩
          | false =>
            have hfs : fs' = fs := by
              rcases HCASE.out with e | ⟨_, e, _⟩
              · exact e
              · rw [← HISB.out] at e; cases e
            subst hfs
            have hc0 : c' = 0 := by
              rw [HCN.out]
              unfold cnt
              have := HISB.out
              cases hf : findF fs' name with
              | none => rfl
              | some f => rw [hf] at this; cases this
            have HC0 := Lib.hid hc0
            obtain ⟨s3, s0, sb, hBx, hux, hfx, hwx⟩ := HFAR.out _ hb
            have HWX := Lib.hid hwx
            have HFX := Lib.hid hfx
            have HPS := Lib.hid (p_strangers b mu mf nu nf Du Df most wait _ hBx hux hfx HSU.out HSF.out (by omega))
            clear hc0 hb hBx hux hfx hwx
            by_cases hst9 : strangersL us fs' < 9
            · have dst : decide ((strangersL us fs' : Int) < 9) = true := decide_eq_true (by omega)
              have hTG : tryGo us fs' name text now = ((0, 79), setL fs' name (c' + 1) now) := by
                unfold tryGo; rw [HUF.out]; simp only; rw [if_pos (.inr hst9), HCN.out]
              have HTG := Lib.hid hTG
              have HFA2 := Lib.hid HFAR.out
              clear hTG hst9
              have HWC := Lib.hid HWX.out
              go_wp2_with (go_at_call 22; refine HPS.out.mono ?_; rintro e w7 ⟨rfl, b7⟩; have hfx7 := ownsMap_below HFX.out b7 HFX.out.lt; have sb7 : w7.cell? ⟨b, 3, none⟩ = some (.map (some mf)) := (b7.cell (p := ⟨b, 3, none⟩) (by have := HWX.out.size; simp; omega)).trans sb; have s07 : w7.cell? ⟨w.heap.size + 1, 0, none⟩ = some (.int .i64 c') := (b7.cell (p := ⟨w.heap.size + 1, 0, none⟩) (World.block_lt_of_cell? _ _ s0)).trans s0; have HFX7 := Lib.hid hfx7; have HWX7 := Lib.hid (HWX.out.trans (b7.mono HWX.out.size)); clear hfx7 b7)
              have hput := SimF.put HSF.out name (c' + 1) now (by omega)
              have HPUT := Lib.hid hput
              clear hput
              refine wp_region_quiet_sink 10 (by kernel_rfl) (by kernel_rfl) (by kernel_rfl) ?_
              simp only [List.take_succ_cons, List.take_zero, List.drop_succ_cons, List.drop_zero]
              repeat (go_big_quiet_step (fail))
              refine wpQuiet_nil ?_
              rintro _ ⟨nq, rfl⟩
              have hf4 : (w7.drewN nq).ownsMap Tryz.prog 9 readF mf nf Df := ownsMap_below HFX7.out (⟨rfl, rfl, rfl, Nat.le_refl _, fun _ _ => rfl⟩ : Below w7.heap.size w7 (w7.drewN nq)) HFX7.out.lt
              obtain ⟨w9, hrun, hown9, hg9⟩ := hf4.update law9 und60 (by unfold maxLen; omega) (keyOf_string_mk und9 hnm) (show readF (.agg #[.int .i64 (c' + 1), .int .i64 now]) = some (failD (c' + 1) now, []) from rfl)
              go_wp2
              go_ret2
              have hgg := (grown_below (⟨HWX7.out.os, HWX7.out.tape, HWX7.out.output, HWX7.out.size, HWX7.out.block⟩ : Below w.heap.size w (w7.drewN nq)) (some mf)).trans hg9
              rw [HTG.out]
              exact ⟨rfl, nf + 1, _, by omega, HST.out.grownF hown9 hgg, HPUT.out, hgg⟩
            · have dst : decide ((strangersL us fs' : Int) < 9) = false := decide_eq_false (by omega)
              have hTG : tryGo us fs' name text now = ((0, 79), fs') := by
                unfold tryGo; rw [HUF.out]; simp only; rw [if_neg]
                rw [← HCN.out, HC0.out]; omega
              have HTG := Lib.hid hTG
              clear hTG hst9
              go_wp2_with (go_at_call 22; refine HPS.out.mono ?_; rintro e w7 ⟨rfl, b7⟩; have HB7 := Lib.hid (HWX.out.trans (b7.mono HWX.out.size)); clear b7)
              go_ret2
              rw [HTG.out]
              exact ⟨rfl, nf, Df, by omega, HST.out.keep HB7.out, HSF.out, grown_below HB7.out _⟩
end Go.Proofs.YtkgbldkjpohinaaGreatDoor
