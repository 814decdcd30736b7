/- The reference's book: Change. -/
import Derived.Test.YtkgbldkjpohinaaGreatDoorRefTry
namespace Go.Proofs.YtkgbldkjpohinaaGreatDoor
open Go.RowKit Go.Maps LatT
set_option linter.unusedVariables false
theorem tryR_found {most wait : Int} {us : List RU} {fs : List RF} {name text : ByteArray} {now : Int} (h : (tryR most wait us fs name text now).1.2 = 0) : ∃ u, findU us name = some u := by
  unfold tryR at h
  have hg : ∀ fs', (tryGo us fs' name text now).1.2 = 0 → ∃ u, findU us name = some u := fun fs' h => by
    unfold tryGo at h
    cases hu : findU us name with
    | some u => exact ⟨u, rfl⟩
    | none =>
      rw [hu] at h
      simp only at h
      split at h <;> cases h
  split at h
  · cases h
  · split at h
    · exact hg _ h
    · split at h
      · split at h
        · cases h
        · exact hg _ h
      · exact hg _ h
/-- A user's hash is turned in its own row. -/
theorem updU_set {us : List RU} {name h : ByteArray} {i : Nat} {u : RU} (hn : us.Pairwise fun a b => a.name ≠ b.name) (hi : us[i]? = some u) (hu : u.name = name) : updU us name h = us.set i { u with hash := h } := by
  obtain ⟨hl, rfl⟩ := List.getElem?_eq_some_iff.1 hi
  refine List.ext_getElem? fun j => ?_
  unfold updU
  rw [List.getElem?_map, List.getElem?_set]
  by_cases e : i = j
  · subst e
    rw [if_pos rfl, if_pos hl, List.getElem?_eq_getElem hl]
    simp [hu]
  · rw [if_neg e]
    cases hj : us[j]? with
    | none => rfl
    | some v =>
      obtain ⟨hjl, rfl⟩ := List.getElem?_eq_some_iff.1 hj
      have hne : us[j].name ≠ name := fun e2 => by
        rcases Nat.lt_or_gt_of_ne e with a | a
        · exact (List.pairwise_iff_getElem.1 hn i j hl hjl a) (hu.trans e2.symm)
        · exact (List.pairwise_iff_getElem.1 hn j i hjl hl a) (e2.trans hu.symm)
      simp [hne]
theorem flat_set {α : Type} (f : α → List Value) (k : Nat) (hk : ∀ a, (f a).length = k) : ∀ (l : List α) (i : Nat) (x : α) (j : Nat) (v : Value), (hi : i < l.length) → j < k → (f l[i]).set j v = f x → (l.set i x).flatMap f = (l.flatMap f).set (i * k + j) v
  | a :: r, 0, x, j, v, _, hj, he => by
    rw [List.set_cons_zero, List.flatMap_cons, List.flatMap_cons, List.set_append_left _ _ (by rw [hk]; omega)]
    rw [← he]
    simp
  | a :: r, i + 1, x, j, v, hi, hj, he => by
    have e : (i + 1) * k + j = (f a).length + (i * k + j) := by rw [hk, Nat.add_mul]; omega
    rw [List.set_cons_succ, List.flatMap_cons, List.flatMap_cons, flat_set f k hk r i x j v (by simpa using hi) hj he, List.set_append_right _ _ (by omega), e, Nat.add_sub_cancel_left]
  | [], i, _, _, _, hi, _, _ => by simp at hi
theorem own_put {w : World} {B g n cap i : Nat} {l : List RU} {u : RU} {h : ByteArray} (ho : OwnU w B (.slice (some ⟨g, 0, none⟩) n cap) l) (hi : l[i]? = some u) : OwnU (w.setCell ⟨g, i * 5 + 2, none⟩ (.string h)) B (.slice (some ⟨g, 0, none⟩) n cap) (l.set i { u with hash := h }) := by
  obtain ⟨hil, rfl⟩ := List.getElem?_eq_some_iff.1 hi
  obtain ⟨h0, ⟨e, e2⟩ | ⟨g', cap', cur, e1, e2, e3, h1, h2, h3, h4⟩⟩ := ho
  · cases e
  · obtain ⟨rfl, rfl, rfl⟩ : g = g' ∧ n = l.length ∧ cap = cap' := by simpa using e1
    refine ⟨by rw [len_flat uCells 5 (fun _ => rfl)], .inr ⟨g, cap, cur.setIfInBounds (i * 5 + 2) (.string h), by rw [List.length_set], e2, by rw [heap_setCell_same w g _ _ 61 _ e3], by rw [List.length_set]; exact h1, h2, by rw [Array.size_setIfInBounds]; exact h3, ?_⟩⟩
    rw [List.length_set, Array.toList_setIfInBounds, List.take_set, h4, flat_set uCells 5 (fun _ => rfl) l i { l[i] with hash := h } 2 (.string h) hil (by omega) rfl]
theorem change_end {B p g cap i : Nat} {w w7 : World} {most wait : Int} {us : List RU} {fs : List RF} {u : RU} (hh : ByteArray) (h : RefSt B w p most wait us fs) (b7 : Below w.heap.size w w7) (hi : us[i]? = some u) (hc : w.cell? ⟨p, 2, none⟩ = some (.slice (some ⟨g, 0, none⟩) us.length cap)) :
    RefSt B (w7.setCell ⟨g, i * 5 + 2, none⟩ (.string hh)) p most wait (us.set i { u with hash := hh }) fs ∧ Fr RefM w (w7.setCell ⟨g, i * 5 + 2, none⟩ (.string hh)) ∧ Below B w (w7.setCell ⟨g, i * 5 + 2, none⟩ (.string hh)) := by
  obtain ⟨hil, _⟩ := List.getElem?_eq_some_iff.1 hi
  obtain ⟨vu, vf, h1, h2, h3⟩ := h.at_
  have e : vu = .slice (some ⟨g, 0, none⟩) us.length cap := by
    rw [cell_of_row w p 2 _ 51 (0, 0) h1] at hc
    simpa using hc
  subst e
  obtain ⟨g', cap', hv, hBg, _, _, ⟨cur, hg⟩, _⟩ := ownU_row h2 hil
  obtain ⟨rfl, rfl⟩ : g = g' ∧ cap = cap' := by simpa using hv
  have h7 := h.keep b7
  have hp7 := (b7.block p (Array.getElem?_eq_some_iff.1 h1).1).trans h1
  obtain ⟨vu2, vf2, k1, k2, k3⟩ := h7.at_
  rw [hp7] at k1
  obtain ⟨e1, e2⟩ : Value.slice (some ⟨g, 0, none⟩) us.length cap = vu2 ∧ vf = vf2 := by simpa using k1
  subst e1
  subst e2
  have hg7 := (b7.block g (Array.getElem?_eq_some_iff.1 hg).1).trans hg
  have hpg : p ≠ g := fun e => by subst e; rw [hp7] at hg7; cases hg7
  refine ⟨⟨⟨.slice (some ⟨g, 0, none⟩) us.length cap, vf, by rw [heap_setCell_other w7 ⟨g, i * 5 + 2, none⟩ p _ hpg]; exact hp7, own_put k2 hi, own_set k3 hg7 (by decide) _⟩, h.lo⟩, set_cell_fr b7 hg ⟨_, _, rfl, .inr (.inl rfl)⟩ _, (b7.mono (by have := (Array.getElem?_eq_some_iff.1 hg).1; omega)).setCell (p := ⟨g, i * 5 + 2, none⟩) hBg _⟩
set_option maxRecDepth 100000 in
set_option maxHeartbeats 8000000 in
theorem r_change {B p : Nat} {w : World} {most wait : Int} {us : List RU} {fs : List RF} (h : RefSt B w p most wait us fs) (name old text : ByteArray) (now : Int) (hB : B ≤ w.heap.size) (hl : us.length < 1000) (hfl : fs.length < 1000) (hw : 1 ≤ wait) (hok : FOk fs) (hn : now ≤ 9223372036854775807) (hsalt : ∀ u ∈ us, u.salt.size ≤ 16) (hnd : us.Pairwise fun a b => a.name ≠ b.name) :
    Calls Tryz.prog 12 #[.pointer (some ⟨p, 0, none⟩), .string name, .string old, .string text, .int .i64 now] w fun e w' => e = .returned (.int .i64 (changeR most wait us fs name old text now).1) ∧ RefSt B w' p most wait (changeR most wait us fs name old text now).2.1 (changeR most wait us fs name old text now).2.2 ∧ Fr RefM w w' ∧ Below B w w' := by
  obtain ⟨r, hr⟩ : ∃ r, r = changeR most wait us fs name old text now := ⟨_, rfl⟩
  rw [← hr]
  by_cases hlong : 64 < text.size
  · have d1 : decide ((text.size : Int) > 64) = true := decide_eq_true (by omega)
    have hr2 : r = (1, us, fs) := by rw [hr]; unfold changeR; rw [if_pos hlong]
    clear hr
    subst hr2
    have H := Lib.hid h
    clear h hok hsalt hnd
    go_enter Tryz.func12, Tryz.ntmps12
    go_wp2
    go_ret
    exact ⟨rfl, H.out, Fr.refl _ _, Below.refl _ _⟩
  have d1 : decide ((text.size : Int) > 64) = false := decide_eq_false (by omega)
  have HT := Lib.hid (r_try h name old now hB hl hfl hw hok hn hsalt)
  obtain ⟨q, hq⟩ : ∃ q, q = tryR most wait us fs name old now := ⟨_, rfl⟩
  rw [← hq] at HT
  have HQ := Lib.hid hq
  have HR := Lib.hid hr
  have HS := Lib.hid hsalt
  have HND := Lib.hid hnd
  clear h hq hr hok hsalt hnd
  obtain ⟨⟨q1, q2⟩, qf⟩ := q
  by_cases hz : q2 = 0
  · have hq0 : (tryR most wait us fs name old now).1.2 = 0 := by rw [← HQ.out]; exact hz
    obtain ⟨u, hu⟩ := tryR_found hq0
    have hr2 : r = (0, updU us name (hashOf u.salt text u.times), qf) := by
      rw [HR.out]; unfold changeR; rw [if_neg hlong]; simp only; rw [hu, ← HQ.out]; simp only; rw [if_pos hz]
    have hss : u.salt.size ≤ 16 := HS.out u (findU_some hu).1
    have hts : text.size ≤ 64 := by omega
    subst hz
    obtain ⟨hh, hhe⟩ : ∃ hh, hh = hashOf u.salt text u.times := ⟨_, rfl⟩
    have HSTR : Hid (∀ w' : World, Calls Tryz.prog 21 #[.string u.salt, .string text, .int .i64 u.times] w' fun e w'' => e = .returned (.string hh) ∧ Below w'.heap.size w' w'') := fun w' => by rw [hhe]; exact refstretch_any u.salt text u.times w' (by omega)
    rw [← hhe] at hr2
    have HR2 := Lib.hid hr2
    have HU := Lib.hid hu
    clear HR hq0 hr2 hss hts hhe hu hlong
    go_enter Tryz.func12, Tryz.ntmps12
    go_upto_region 7 with (first
      | (go_at_call 10; refine HT.out.mono ?_; rintro e w1 ⟨rfl, m1, m2, m3⟩; have M1 := Lib.hid m1; have M2 := Lib.hid m2; have M3 := Lib.hid m3; clear m1 m2 m3)
      | (go_at_call 19; refine (r_find M1.out name (by omega)).mono ?_; rintro e w2 ⟨r2, rfl, hr2, rfl⟩))
    rcases hr2 with ⟨i2, u', rfl, hi2, hun, huf, _⟩ | ⟨rfl, huf⟩
    · have e1 : some u' = some u := huf.symm.trans HU.out
      obtain rfl := Option.some.inj e1
      obtain ⟨g, cap, hil, hcu⟩ := ref_user M1.out hi2
      have cg := (hcu w2 (Below.refl _ _)).1
      have L2 : ∀ i : Lat w2, i.w.cell? ⟨p, 2, none⟩ = some (.slice (some ⟨g, 0, none⟩) us.length cap) := fun i => (hcu _ i.h).1
      have L21 : ∀ i : Lat w2, i.w.cell? ⟨g, i2 * 5 + 1, none⟩ = some (.string u'.salt) := fun i => (hcu _ i.h).2.1 1 (by omega)
      have L22 : ∀ i : Lat w2, i.w.cell? ⟨g, i2 * 5 + 2, none⟩ = some (.string u'.hash) := fun i => (hcu _ i.h).2.1 2 (by omega)
      have L23 : ∀ i : Lat w2, i.w.cell? ⟨g, i2 * 5 + 3, none⟩ = some (.int .i64 u'.times) := fun i => (hcu _ i.h).2.1 3 (by omega)
      have L24 : ∀ i : Lat w2, i.w.frozen? ⟨g, i2 * 5 + 2, none⟩ = false := fun i => by
        obtain ⟨vu, vf, k1, k2, k3⟩ := (M1.out.keep i.h).at_
        have e : vu = .slice (some ⟨g, 0, none⟩) us.length cap := by
          have := L2 i
          rw [cell_of_row i.w p 2 _ 51 (0, 0) k1] at this
          simpa using this
        subst e
        obtain ⟨g', cap', hv, _, _, _, ⟨cur, hg⟩, _⟩ := ownU_row k2 hil
        obtain ⟨rfl, rfl⟩ : g = g' ∧ cap = cap' := by simpa using hv
        exact frozen_of_row i.w g _ cur 61 hg
      have dil : decide ((i2 : Int) < us.length) = true := decide_eq_true (by omega)
      have di0 : (0 : Int) ≤ i2 := by omega
      have HI2 := Lib.hid hi2
      have HUN := Lib.hid hun
      have HCG := Lib.hid cg
      clear hi2 hun huf hcu e1 cg
      refine wp_region_lat_tail (W := w2) 23 (by kernel_rfl) (by kernel_rfl) (by kernel_rfl) (Below.refl _ _) ?_
      simp only [List.take_succ_cons, List.take_zero, List.drop_succ_cons, List.drop_zero]
      iterate 23 (go_big_quiet_step ((first | (with_reducible exact Lat.call (HSTR.out _)))))
      refine wpQuiet_nil ?_
      rintro _ ⟨i, rfl⟩
      have B5 := Lib.hid i.h
      go_wp2_with (fail)
      go_ret
      rw [HR2.out]
      have hend := change_end hh M1.out B5.out HI2.out HCG.out
      rw [← updU_set HND.out HI2.out HUN.out] at hend
      exact ⟨rfl, hend.1, M2.out.trans hend.2.1, M3.out.trans hend.2.2⟩
    · exfalso
      have := huf.symm.trans HU.out
      cases this
  · have hr2 : r = (q2, us, qf) := by
      rw [HR.out]; unfold changeR; rw [if_neg hlong]; simp only; rw [← HQ.out]; simp only
      cases findU us name with
      | none => rfl
      | some u => simp only; rw [if_neg hz]
    have dz : (q2 != 0) = true := by simpa using hz
    clear HR hlong
    subst hr2
    clear hz
    go_enter Tryz.func12, Tryz.ntmps12
    go_wp2_with (go_at_call 10; refine HT.out.mono ?_; rintro e w1 ⟨rfl, m1, m2, m3⟩; have M1 := Lib.hid m1; have M2 := Lib.hid m2; have M3 := Lib.hid m3; clear m1 m2 m3)
    go_ret
    exact ⟨rfl, M1.out, M2.out, M3.out⟩
end Go.Proofs.YtkgbldkjpohinaaGreatDoor
