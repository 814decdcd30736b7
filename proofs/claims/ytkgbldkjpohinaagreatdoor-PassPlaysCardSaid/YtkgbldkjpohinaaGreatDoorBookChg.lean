/- (*Book).Change, as the plain law says. -/
import Derived.Test.YtkgbldkjpohinaaGreatDoorMBook
import Derived.Test.YtkgbldkjpohinaaGreatDoorRefChange
import Derived.Test.YtkgbldkjpohinaaGreatDoorChange
namespace Go.Proofs.YtkgbldkjpohinaaGreatDoor
open Go.RowKit Go.Maps
set_option linter.unusedVariables false
def PChR (w0 w : World) (b mu mf nu nf : Nat) (most wait : Int) (r : Int × List RU × List RF) (e : Ending) (w' : World) : Prop :=
  e = .returned (.int .i64 r.1) ∧ ∃ (nf' : Nat) (Du' Df' : DataW Unit), nf' ≤ nf + 1 ∧ BookSt w0 w' b mu mf most wait (nu + 1) nf' Du' Df' ∧ SimU Du' r.2.1 ∧ SimF Df' r.2.2 ∧ Fr MapM w w'
theorem moreU {w0 w : World} {b mu mf nu nf : Nat} {Du Df : DataW Unit} {most wait : Int} (h : BookSt w0 w b mu mf most wait nu nf Du Df) : BookSt w0 w b mu mf most wait (nu + 1) nf Du Df := ⟨h.at_, h.hu.mono (by omega), h.hf, h.below, h.o1, h.o2, h.o3⟩
set_option maxRecDepth 100000 in
set_option maxHeartbeats 4000000 in
theorem p_change {w0 w : World} {b mu mf nu nf : Nat} {Du Df : DataW Unit} {most wait : Int} {us : List RU} {fs : List RF} (h : BookSt w0 w b mu mf most wait nu nf Du Df) (hsu : SimU Du us) (hsf : SimF Df fs) (name old text : ByteArray) (now : Int) (h1m : 1 ≤ most) (hfl : fs.length < 1000) (hnu : nu < 100000) (hnf : nf < 100000) (hok : FOk fs) (hstr : strangersL us fs ≤ 9) (hnow : now ≤ 9223372036854775807) (hnm : name.size ≤ maxLen) (hsalt : ∀ u ∈ us, u.salt.size ≤ 16) :
    Calls Tryz.prog 11 #[.pointer (some ⟨b, 0, none⟩), .string name, .string old, .string text, .int .i64 now] w (PChR w0 w b mu mf nu nf most wait (changeR most wait us fs name old text now)) := by
  obtain ⟨r, hr⟩ : ∃ r, r = changeR most wait us fs name old text now := ⟨_, rfl⟩
  rw [← hr]
  by_cases hlong : 64 < text.size
  · have d1 : decide ((text.size : Int) > 64) = true := decide_eq_true (by omega)
    have hr2 : r = (1, us, fs) := by rw [hr]; unfold changeR; rw [if_pos hlong]
    clear hr
    subst hr2
    have H := Lib.hid h
    clear h hok hsalt
    go_enter Tryz.func11, Tryz.ntmps11
    go_wp2
    go_ret
    exact ⟨rfl, nf, Du, Df, by omega, moreU H.out, hsu, hsf, Fr.refl _ _⟩
  have d1 : decide ((text.size : Int) > 64) = false := decide_eq_false (by omega)
  have HT := Lib.hid (p_try h hsu hsf name old now h1m hfl hnf hok hstr hnow hnm hsalt)
  obtain ⟨q, hq⟩ : ∃ q, q = tryR most wait us fs name old now := ⟨_, rfl⟩
  rw [← hq] at HT
  have HQ := Lib.hid hq
  have HR := Lib.hid hr
  have HS := Lib.hid hsalt
  have HSU := Lib.hid hsu
  have HFF := Lib.hid h.hf
  clear h hq hr hok hsalt hsu hsf
  obtain ⟨⟨q1, q2⟩, qf⟩ := q
  by_cases hz : q2 = 0
  · have hq0 : (tryR most wait us fs name old now).1.2 = 0 := by rw [← HQ.out]; exact hz
    obtain ⟨u, hu⟩ := tryR_found hq0
    have hr2 : r = (0, updU us name (hashOf u.salt text u.times), qf) := by
      rw [HR.out]; unfold changeR; rw [if_neg hlong]; simp only; rw [hu, ← HQ.out]; simp only; rw [if_pos hz]
    have hps : u.salt.size ≤ 16 := HS.out u (findU_some hu).1
    have ht : text.size ≤ 64 := by omega
    have hatU : Du.atKey (.string name.data.toList) noU = entD u.salt u.times u.hash u.tag := by
      have := HSU.out.at name noU
      rw [hu] at this
      exact this
    have HAT := Lib.hid hatU
    have HUPD := Lib.hid (HSU.out.upd hu (hashOf u.salt text u.times))
    obtain ⟨p, hp⟩ : ∃ p, p = u.salt := ⟨_, rfl⟩
    obtain ⟨tt, htt⟩ : ∃ p, p = u.times := ⟨_, rfl⟩
    obtain ⟨qh, hqh⟩ : ∃ p, p = u.hash := ⟨_, rfl⟩
    obtain ⟨i, hi⟩ : ∃ p, p = u.tag := ⟨_, rfl⟩
    rw [← hp, ← htt] at hr2 HUPD
    rw [← hp, ← htt, ← hqh, ← hi] at HAT
    rw [← hi] at HUPD
    rw [← hp] at hps
    subst hz
    have HR2 := Lib.hid hr2
    clear HR hq0 hr2 hu hlong hp htt hqh hi hatU
    go_enter Tryz.func11, Tryz.ntmps11
    go_upto_region 6 with (go_at_call 9; refine HT.out.mono ?_; rintro e w1 ⟨rfl, nf', Df', hnf', h1, hsf', hg1⟩)
    have HSF' := Lib.hid hsf'
    have HG1 := Lib.hid hg1
    clear hsf' hg1
    have c2 : w1.cell? ⟨b, 2, none⟩ = some (.map (some mu)) := by rw [cell_of_row w1 b 2 _ 47 (0, 0) h1.at_]; rfl
    have hlt : b < w1.heap.size := (Array.getElem?_eq_some_iff.1 h1.at_).1
    have hmu := h1.hu.lt
    obtain ⟨v, ps, hrun, hv⟩ := h1.hu.lookup law9 und59 (zero64 w1) (zd := noU) (zp := []) rfl (WideMaps.keyOf_string_mk und9 hnm)
    obtain ⟨sa, t2, ha, m, rfl, hz⟩ := readU_inv hv
    have hat := congrArg Prod.fst hz
    simp only [HAT.out] at hat
    obtain ⟨rfl, rfl, rfl, rfl⟩ := entD_inj hat
    clear hz hat hv
    go_upto_region 7 with (fail)
    obtain ⟨W2, hW2⟩ : ∃ W2, W2 = w1.alloc (.cells #[.string p, .int .i64 tt, .string qh, .int .i64 i] 53) := ⟨_, rfl⟩
    rw [← hW2]
    have hB2 : Below w1.heap.size w1 W2 := by rw [hW2]; exact (Below.refl _ _).alloc (Nat.le_refl _) _
    have hr2 : W2.heap[w1.heap.size]? = some (.cells #[.string p, .int .i64 tt, .string qh, .int .i64 i] 53 (0, 0)) := by rw [hW2]; exact heap_alloc_new w1 _
    have hl2 : w1.heap.size < W2.heap.size := (Array.getElem?_eq_some_iff.1 hr2).1
    have x0 : W2.cell? ⟨w1.heap.size, 0, none⟩ = some (.string p) := by rw [cell_of_row W2 _ 0 _ 53 (0, 0) hr2]; rfl
    have x1 : W2.cell? ⟨w1.heap.size, 1, none⟩ = some (.int .i64 tt) := by rw [cell_of_row W2 _ 1 _ 53 (0, 0) hr2]; rfl
    have x2 : W2.cell? ⟨w1.heap.size, 2, none⟩ = some (.string qh) := by rw [cell_of_row W2 _ 2 _ 53 (0, 0) hr2]; rfl
    clear hW2 hrun c2
    go_upto_region 8 with (go_at_call 17; refine (stretch_any p text tt _ (by omega)).mono ?_; rintro e w3 ⟨rfl, hb3⟩; have hr3 : w3.heap[w1.heap.size]? = some (.cells #[.string p, .int .i64 tt, .string qh, .int .i64 i] 53 (0, 0)) := (hb3.block _ hl2).trans hr2; have z2 : w3.cell? ⟨w1.heap.size, 2, none⟩ = some (.string qh) := (cell_of_row w3 _ 2 _ 53 (0, 0) hr3).trans rfl; have zf : w3.frozen? ⟨w1.heap.size, 2, none⟩ = false := frozen_of_row w3 _ 2 _ 53 hr3)
    obtain ⟨W4, hW4⟩ : ∃ W4, W4 = w3.setCell ⟨w1.heap.size, 2, none⟩ (.string (hashOf p text tt)) := ⟨_, rfl⟩
    unfold hashOf at hW4
    rw [← hW4]
    have hr4 : W4.heap[w1.heap.size]? = some (.cells #[.string p, .int .i64 tt, .string (hashOf p text tt), .int .i64 i] 53 (0, 0)) := by rw [hW4, heap_setCell_same w3 w1.heap.size 2 _ 53 _ hr3]; rfl
    have hB3 : Below w1.heap.size w1 w3 := hB2.trans ((⟨hb3.os, hb3.tape, hb3.output, hb3.size, hb3.block⟩ : Below W2.heap.size W2 w3).mono hB2.size)
    have hB4 : Below w1.heap.size w1 W4 := by rw [hW4]; exact hB3.setCell (p := ⟨w1.heap.size, 2, none⟩) (Nat.le_refl _) _
    have h4 := h1.keep hB4
    have c2 : W4.cell? ⟨b, 2, none⟩ = some (.map (some mu)) := by rw [cell_of_row W4 b 2 _ 47 (0, 0) h4.at_]; rfl
    have z0 : W4.cell? ⟨w1.heap.size, 0, none⟩ = some (.string p) := (cell_of_row W4 _ 0 _ 53 (0, 0) hr4).trans rfl
    have z1 : W4.cell? ⟨w1.heap.size, 1, none⟩ = some (.int .i64 tt) := (cell_of_row W4 _ 1 _ 53 (0, 0) hr4).trans rfl
    have z2' : W4.cell? ⟨w1.heap.size, 2, none⟩ = some (.string (hashOf p text tt)) := (cell_of_row W4 _ 2 _ 53 (0, 0) hr4).trans rfl
    have z3 : W4.cell? ⟨w1.heap.size, 3, none⟩ = some (.int .i64 i) := (cell_of_row W4 _ 3 _ 53 (0, 0) hr4).trans rfl
    obtain ⟨HH, hHH⟩ : ∃ x, x = hashOf p text tt := ⟨_, rfl⟩
    rw [← hHH] at z2'
    have H2 := Lib.hid hHH
    clear hHH hW4 hr4 hr3 z2 zf hB3
    go_wp2
    refine wp_region_quiet_sink 6 (by kernel_rfl) (by kernel_rfl) (by kernel_rfl) ?_
    simp only [List.take_succ_cons, List.take_zero, List.drop_succ_cons, List.drop_zero]
    repeat (go_big_quiet_step (fail))
    refine wpQuiet_nil ?_
    rintro _ ⟨nq, rfl⟩
    have h5 := h4.keep (⟨rfl, rfl, rfl, Nat.le_refl _, fun _ _ => rfl⟩ : Below W4.heap.size W4 (W4.drewN nq))
    obtain ⟨w9, hrun, hown9, hg9⟩ := h5.hu.update law9 und59 (by unfold maxLen; omega) (WideMaps.keyOf_string_mk und9 hnm) (show readU (.agg #[.string p, .int .i64 tt, .string HH, .int .i64 i]) = some (entD p tt HH i, []) from rfl)
    go_wp2
    go_ret
    rw [HR2.out]
    have hUP := HUPD.out
    rw [← H2.out] at hUP ⊢
    exact ⟨rfl, nf', _, Df', hnf', h5.grownU hown9 hg9, hUP, HSF'.out, (grown_fr HFF.out HG1.out).trans ((Fr.of_below (below_drawn hB4 nq)).trans (own_fr h5.hu hg9))⟩
  · have hr2 : r = (q2, us, qf) := by
      rw [HR.out]; unfold changeR; rw [if_neg hlong]; simp only; rw [← HQ.out]; simp only
      cases findU us name with
      | none => rfl
      | some u => simp only; rw [if_neg hz]
    have dz : (q2 != 0) = true := by simpa using hz
    clear HR hlong
    subst hr2
    clear hz
    go_enter Tryz.func11, Tryz.ntmps11
    go_wp2_with (go_at_call 9; refine HT.out.mono ?_; rintro e w1 ⟨rfl, nf', Df', hnf', h1, hsf', hg1⟩; have H1 := Lib.hid h1; have HSF' := Lib.hid hsf'; have HG1 := Lib.hid hg1; clear h1 hsf' hg1)
    go_ret
    exact ⟨rfl, nf', Du, Df', hnf', moreU H1.out, HSU.out, HSF'.out, grown_fr HFF.out HG1.out⟩
end Go.Proofs.YtkgbldkjpohinaaGreatDoor
