/- Read: small laws of its walk. Read: a book's own text is read as the book. -/
import Derived.Test.YtkgbldkjpohinaaGreatDoorLines
import Derived.Test.YtkgbldkjpohinaaGreatDoorText
import Derived.Test.YtkgbldkjpohinaaGreatDoorMLines
namespace Go.Proofs.YtkgbldkjpohinaaGreatDoor
open Go.RowKit Go.Maps Go.Sort Go.Shelf
attribute [local go_sem] Oper.semAt_some
set_option linter.unusedVariables false
theorem lines_any (s : ByteArray) (w : World) : Calls Tryz.prog 26 #[.string s] w fun e w' => e = .returned (.func (.func 41) #[] #[.pointer (some ⟨w.heap.size, 0, none⟩)]) ∧ w' = w.alloc (.cells #[.string s] 9) := by
  go_enter Tryz.func26, Tryz.ntmps26
  go_wp2
  go_ret
  exact ⟨rfl, rfl⟩
section
variable {w0 w w' : World} {b mu mf : Nat} {tries wait : Int} {nu nf : Nat} {Du Df : DataW Unit}
theorem BookSt.far (h : BookSt w0 w b mu mf tries wait nu nf Du Df) {r : Nat} (hg : w.grownBy w' (some r)) (h1 : r ≠ b) (h2 : r ≠ mu) (h3 : r ≠ mf) (h4 : w0.heap.size ≤ r) : BookSt w0 w' b mu mf tries wait nu nf Du Df :=
  ⟨by have := h.at_; unfold BookAt at this ⊢; rw [← this]; exact hg.block b (Array.getElem?_eq_some_iff.1 h.at_).1 (by simp; omega), h.hu.kept hg (by simp; omega), h.hf.kept hg (by simp; omega), h.below.grown hg h.below.size (fun k hk => by cases hk; exact h4), h.o1, h.o2, h.o3⟩
theorem BookSt.base {W : World} (h : BookSt W w b mu mf tries wait nu nf Du Df) (hb : Below w0.heap.size w0 W) : BookSt w0 w b mu mf tries wait nu nf Du Df :=
  ⟨h.at_, h.hu, h.hf, hb.trans (h.below.mono hb.size), Nat.le_trans hb.size h.o1, h.o2, h.o3⟩
end
theorem kept_row {A B : World} {r k : Nat} {o : Obj} (h : A.heap[k]? = some o) (hg : A.grownBy B (some r)) (hk : k ≠ r) : B.heap[k]? = some o :=
  (hg.block k (Array.getElem?_eq_some_iff.1 h).1 (by simp; omega)).trans h
theorem read_end {w W : World} {t : Array Value} {k : Nat} {x : Value} {n : Int} {R : Ending → World → Prop} (hK : W.heap[k]? = some (.deferred (some []))) (hb : Below w.heap.size w W) (h0 : W.heap[w.heap.size]? = some (.cells #[x] 23 (0, 0))) (h1 : W.heap[w.heap.size + 1]? = some (.cells #[.int .i64 n] 24 (0, 0))) (hk : w.heap.size + 1 < k)
    (h6 : t[6]? = some (.pointer (some ⟨w.heap.size, 0, none⟩))) (h7 : t[7]? = some (.pointer (some ⟨w.heap.size + 1, 0, none⟩)))
    (hR : ∀ W', W.grownBy W' (some k) → R (.returned (.tuple #[x, .int .i64 n])) W') : LeavesInM Fence.wide 9 Tryz.prog Tryz.f13 t R [] .returning (W.putObj k (.deferred none)) := by
  have e0 : (W.putObj k (.deferred none)).cell? ⟨w.heap.size, 0, none⟩ = some x := by
    rw [cell_of_row _ _ 0 _ 23 (0, 0) ((World.putObj_heap_other (by omega)).trans h0)]; rfl
  have e1 : (W.putObj k (.deferred none)).cell? ⟨w.heap.size + 1, 0, none⟩ = some (.int .i64 n) := by
    rw [cell_of_row _ _ 0 _ 24 (0, 0) ((World.putObj_heap_other (by omega)).trans h1)]; rfl
  refine ⟨.tuple #[x, .int .i64 n], ?_, hR _ (grownBy_putObj' W k _)⟩
  simp [results, Tryz.f13, go_sem, e0, e1, h6, h7]
theorem grown_setCell (A : World) (r i : Nat) (u : Value) : A.grownBy (A.setCell ⟨r, i, none⟩ u) (some r) := ⟨rfl, rfl, rfl, by simp, fun k _ hk => heap_setCell_other A ⟨r, i, none⟩ k u (fun e => hk (by simp at e; rw [e]))⟩
theorem read_close {w w5 : World} {t : Array Value} {k : Nat} {x : Value} {n : Int} {R : Ending → World → Prop} (hb : Below w.heap.size w w5) (h0 : w5.heap[w.heap.size]? = some (.cells #[.pointer none] 23 (0, 0))) (h1 : w5.heap[w.heap.size + 1]? = some (.cells #[.int .i64 0] 24 (0, 0))) (hK : w5.heap[k]? = some (.deferred (some []))) (hk : w.heap.size + 1 < k)
    (h6 : t[6]? = some (.pointer (some ⟨w.heap.size, 0, none⟩))) (h7 : t[7]? = some (.pointer (some ⟨w.heap.size + 1, 0, none⟩)))
    (hR : ∀ W1 W2 W3, w5.grownBy W1 (some w.heap.size) → W1.grownBy W2 (some (w.heap.size + 1)) → W2.grownBy W3 (some k) → R (.returned (.tuple #[x, .int .i64 n])) W3) :
    LeavesInM Fence.wide 9 Tryz.prog Tryz.f13 t R [{ target := .collected k, args := #[] }] .returning ((w5.setCell ⟨w.heap.size, 0, none⟩ x).setCell ⟨w.heap.size + 1, 0, none⟩ (.int .i64 n)) := by
  have g1 := grown_setCell w5 w.heap.size 0 x
  have g2 := grown_setCell (w5.setCell ⟨w.heap.size, 0, none⟩ x) (w.heap.size + 1) 0 (.int .i64 n)
  have r0 : (w5.setCell ⟨w.heap.size, 0, none⟩ x).heap[w.heap.size]? = some (.cells #[x] 23 (0, 0)) := by rw [heap_setCell_same w5 w.heap.size 0 _ 23 x h0]; rfl
  have r1 := kept_row h1 g1 (by omega)
  have s1 : ((w5.setCell ⟨w.heap.size, 0, none⟩ x).setCell ⟨w.heap.size + 1, 0, none⟩ (.int .i64 n)).heap[w.heap.size + 1]? = some (.cells #[.int .i64 n] 24 (0, 0)) := by rw [heap_setCell_same _ (w.heap.size + 1) 0 _ 24 _ r1]; rfl
  have hK2 := kept_row (kept_row hK g1 (by omega)) g2 (by omega)
  have hb2 := (hb.grown g1 hb.size (fun k hk => by cases hk; omega))
  have hb3 := hb2.grown g2 hb2.size (fun k hk => by cases hk; omega)
  exact ⟨by simp, .inl ⟨_, _, rfl, run_takeDeferred hK2, read_end hK2 hb3 (kept_row r0 g2 (by omega)) s1 hk h6 h7 fun W3 g3 => hR _ _ _ g1 g2 g3⟩⟩
theorem fin3 {w w5 W1 W2 W3 : World} {k : Nat} (hb : Below w.heap.size w w5) (g1 : w5.grownBy W1 (some w.heap.size)) (g2 : W1.grownBy W2 (some (w.heap.size + 1))) (g3 : W2.grownBy W3 (some k)) (hk : w.heap.size ≤ k) : Below w.heap.size w W3 := by
  have hb2 := (hb.grown g1 hb.size (fun k hk => by cases hk; omega))
  have hb3 := hb2.grown g2 hb2.size (fun k hk => by cases hk; omega)
  exact hb3.grown g3 hb3.size (fun j hj => by cases hj; omega)
theorem rowX {W w6 : World} {mu : Nat} (h : (W.drew.alloc (.cells #[.int .i64 0] 73)).grownBy w6 (some mu)) (hmu : mu < W.heap.size) : w6.cell? ⟨W.heap.size, 0, none⟩ = some (.int .i64 0) ∧ w6.frozen? ⟨W.heap.size, 0, none⟩ = false := by
  have h1 : w6.heap[W.heap.size]? = some (.cells #[.int .i64 0] 73 (0, 0)) := by
    refine (h.block W.heap.size (by rw [World.size_alloc]; exact Nat.lt_succ_self _) (by simp; omega)).trans ?_
    exact World.alloc_heap_new W.drew _
  exact ⟨by rw [cell_of_row w6 _ 0 _ 73 (0, 0) h1]; rfl, frozen_of_row w6 _ 0 _ 73 h1⟩
end Go.Proofs.YtkgbldkjpohinaaGreatDoor
namespace Go.Proofs.YtkgbldkjpohinaaGreatDoor
open Go.RowKit Go.Maps Go.Sort Go.Shelf
attribute [local go_sem] Oper.semAt_some
set_option linter.unusedVariables false
structure UGood (u : RU) : Prop where
  may : mayB u.name u.salt u.times u.tag = true
  hex : ∃ o, unhexL (bytesOf u.hash) = some o ∧ o.length = 32
theorem UGood.ok {u : RU} (h : UGood u) : UOk u := by
  obtain ⟨z1, z2, z3, z4, z5, z6, z7, z8⟩ := mayB_true h.may
  obtain ⟨o, ho, h32⟩ := h.hex
  have := unhexL_len _ _ ho
  rw [bytesOf_length] at this
  exact ⟨z2, z4, by omega, z5, z6, z7, z8⟩
def lineBu (u : RU) : ByteArray := lineB u.name u.salt u.times u.hash u.tag
theorem textR_cat (us : List RU) : (textR us).data.toList = catB (us.map lineBu) := by
  unfold textR catB
  rw [List.flatMap_map]
  rfl
theorem cat_take (us : List RU) (k : Nat) : catB (us.map lineBu) = catB ((us.take k).map lineBu) ++ catB ((us.drop k).map lineBu) := by
  conv => lhs; rw [← List.take_append_drop k us]
  unfold catB
  rw [List.map_append, List.flatMap_append]
theorem lineB_split {u : RU} (h : UGood u) : ∃ y : ByteArray, lineBu u = y ++ ⟨#[10]⟩ ∧ (10 : UInt8) ∉ y.data.toList := by
  obtain ⟨z1, z2, z3, z4, z5, z6, z7, z8⟩ := mayB_true h.may
  refine ⟨lineS u.name u.salt u.times u.hash u.tag, rfl, fun hm => ?_⟩
  have hl1 : LettersP u.name false ∧ LettersP u.salt true := by
    have hmay := h.may
    unfold mayB at hmay
    simp only [Bool.and_eq_true, decide_eq_true_eq] at hmay
    exact ⟨hmay.1.1.1.1.1, hmay.1.1.1.1.2⟩
  obtain ⟨o, ho, _⟩ := h.hex
  obtain ⟨n2, hn2⟩ : ∃ n : Nat, u.times = n := ⟨u.times.toNat, by omega⟩
  obtain ⟨n4, hn4⟩ : ∃ n : Nat, u.tag = n := ⟨u.tag.toNat, by omega⟩
  rw [lineS_list, hn2, hn4] at hm
  have no : ∀ {l : List UInt8}, Plain l → (10 : UInt8) ∉ l := fun h hm => (h 10 hm).2.2 rfl
  simp only [closedBy, List.flatMap_cons, List.flatMap_nil, List.append_nil, List.mem_append, List.mem_singleton] at hm
  rcases hm with ((hm | hm) | (hm | hm) | (hm | hm) | (hm | hm)) | hm
  · exact no (plain_letters hl1.1) hm
  · cases hm
  · exact no (plain_letters hl1.2) hm
  · cases hm
  · exact no (plain_itoa n2) hm
  · cases hm
  · exact no (plain_hex ho) hm
  · cases hm
  · exact no (plain_itoa n4) hm
theorem piece_step {us : List RU} {pre : List ByteArray} {x : ByteArray} (hg : ∀ u ∈ us, UGood u) (hl : pre.length ≤ us.length) (hp : pre = (us.take pre.length).map lineBu) (h : Piece (textR us) pre x) : ∃ hk : pre.length < us.length, x = lineBu us[pre.length] := by
  obtain ⟨r, h1, h2, h3⟩ := h
  rw [textR_cat, cat_take us pre.length, ← hp] at h1
  have hr := List.append_cancel_left h1
  have hk : pre.length < us.length := by
    rcases Nat.lt_or_ge pre.length us.length with a | a
    · exact a
    · exfalso
      apply h2
      rw [← hr, List.drop_eq_nil_of_le a]
      rfl
  refine ⟨hk, ?_⟩
  obtain ⟨y, hy, hny⟩ := lineB_split (hg us[pre.length] (List.getElem_mem _))
  have hr2 : r = y.data.toList ++ 10 :: catB ((us.drop (pre.length + 1)).map lineBu) := by
    rw [← hr, List.drop_eq_getElem_cons hk]
    unfold catB
    rw [List.map_cons, List.flatMap_cons, hy]
    simp
  rcases h3 with ⟨y2, z2, h4, h5, h6⟩ | ⟨h4, _⟩
  · rw [hr2] at h5
    obtain ⟨e1, _⟩ := sep_unique 10 _ _ _ _ hny h4 h5
    apply bytes_eq
    rw [h6, hy, ← e1]
    simp
  · exact absurd (by rw [hr2]; simp) h4
theorem piece_size {s : ByteArray} {pre : List ByteArray} {x : ByteArray} (h : Piece s pre x) : x.size ≤ s.size := by
  obtain ⟨r, h1, _, h3⟩ := h
  have e : ∀ b : ByteArray, b.size = b.data.toList.length := fun b => by simp
  have h4 := congrArg List.length h1
  rw [List.length_append] at h4
  rw [e, e]
  rcases h3 with ⟨y, z, _, h5, h6⟩ | ⟨_, h6⟩
  · rw [h6]
    rw [h5] at h4
    simp at h4 ⊢
    omega
  · rw [h6]; omega
theorem lines_all {us : List RU} {xs : List ByteArray} (hl : xs.length ≤ us.length) (hp : xs = (us.take xs.length).map lineBu) (h : (textR us).data.toList = catB xs) : xs.length = us.length := by
  rw [textR_cat, cat_take us xs.length, ← hp] at h
  have hr : catB ((us.drop xs.length).map lineBu) = [] := by
    have h2 : catB xs ++ catB ((us.drop xs.length).map lineBu) = catB xs ++ [] := by rw [List.append_nil]; exact h
    exact List.append_cancel_left h2
  rcases Nat.lt_or_ge xs.length us.length with a | a
  · exfalso
    rw [List.drop_eq_getElem_cons a] at hr
    unfold catB at hr
    rw [List.map_cons, List.flatMap_cons] at hr
    have := (List.append_eq_nil_iff.1 hr).1
    unfold lineBu lineB at this
    simp at this
  · omega
theorem take_none {us : List RU} (hs : us.Pairwise fun a b => a.name.data.toList < b.name.data.toList) {k : Nat} (hk : k < us.length) {u : RU} (hu : u = us[k]) : findU (us.take k) u.name = none := by
  unfold findU
  rw [List.find?_eq_none]
  intro v hv
  obtain ⟨j, hj, rfl⟩ := List.getElem_of_mem hv
  have hjk : j < k := by rw [List.length_take] at hj; omega
  rw [List.getElem_take]
  have := List.pairwise_iff_getElem.1 hs j k (by omega) hk hjk
  intro e
  have e2 : us[j].name = u.name := by simpa using e
  rw [e2, hu] at this
  exact List.lt_irrefl _ this
theorem put_last {us : List RU} (hs : us.Pairwise fun a b => a.name.data.toList < b.name.data.toList) {k : Nat} (hk : k < us.length) {u : RU} (hu : u = us[k]) : putL u (us.take k) = us.take (k + 1) := by
  have hl : (us.take k).length = k := by rw [List.length_take]; omega
  rw [putL_split u (us.take k) k (by omega) (fun j hj hjk => by
    rw [List.getElem_take, hu]
    exact List.pairwise_iff_getElem.1 hs j k (by omega) hk hjk) (fun h => by omega)]
  rw [List.take_take, Nat.min_self, List.drop_eq_nil_of_le (by omega), List.take_succ_eq_append_getElem hk, hu]
theorem sim_zero : SimU (.map []) (([] : List RU)) := ⟨⟨[], rfl, List.Perm.refl _⟩, List.Pairwise.nil⟩
theorem trim_nl (y : ByteArray) : (⟨(Lib.trimSuffix (y ++ ⟨#[10]⟩ : ByteArray).data.toList (⟨#[10]⟩ : ByteArray).data.toList).toArray⟩ : ByteArray) = y := by
  have e : (y ++ ⟨#[10]⟩ : ByteArray).data.toList = y.data.toList ++ [10] := by simp
  rw [e]
  have h : Lib.trimSuffix (y.data.toList ++ [10]) [10] = y.data.toList := by
    unfold Lib.trimSuffix Lib.hasSuffix
    simp
  show (⟨(Lib.trimSuffix (y.data.toList ++ [10]) [10]).toArray⟩ : ByteArray) = y
  rw [h]
def ReadG (us : List RU) (w : World) (most wait : Int) (e : Ending) (w' : World) : Prop :=
  Below w.heap.size w w' ∧ ∃ (b mu mf nu nf : Nat) (D Df : DataW Unit), e = .returned (.tuple #[.pointer (some ⟨b, 0, none⟩), .int .i64 0]) ∧ BookSt w w' b mu mf most wait nu nf D Df ∧ SimU D us
def ReadJ (us : List RU) (w : World) (b mu mf : Nat) (most wait : Int) (n8 : Nat) (pre : List ByteArray) (W : World) : Prop :=
  ∃ (D Df : DataW Unit) (nu nf : Nat), BookSt w W b mu mf most wait nu nf D Df ∧ nu ≤ pre.length ∧ (pre.length ≤ us.length ∧ pre = (us.take pre.length).map lineBu ∧ SimU D (us.take pre.length)) ∧ W.heap[w.heap.size]? = some (.cells #[.pointer none] 23 (0, 0)) ∧ W.heap[w.heap.size + 1]? = some (.cells #[.int .i64 0] 24 (0, 0)) ∧ W.heap[n8]? = some (.cells #[.pointer (some ⟨b, 0, none⟩)] 23 (0, 0)) ∧ n8 + 2 ≤ W.heap.size
theorem ReadJ.far {us : List RU} {w A B : World} {b mu mf n8 r : Nat} {most wait : Int} {pre : List ByteArray} (h : ReadJ us w b mu mf most wait n8 pre A) (hg : A.grownBy B (some r)) (hb : b < n8) (h1 : w.heap.size + 2 ≤ mu) (h2 : mu < mf) (h3 : mf < b) (hr : n8 < r) : ReadJ us w b mu mf most wait n8 pre B := by
  obtain ⟨D, Df, nu, nf, k1, k2, k3, k4, k5, k6, k7⟩ := h
  exact ⟨D, Df, nu, nf, k1.far hg (by omega) (by omega) (by omega) (by omega), k2, k3, kept_row k4 hg (by omega), kept_row k5 hg (by omega), kept_row k6 hg (by omega), by have := hg.size; omega⟩
def RestG (w0 w w' : World) (b mu mf : Nat) (most wait : Int) (nu nf : Nat) (D Df : DataW Unit) : Prop := w.grownBy w' (some mu) ∧ BookSt w0 w' b mu mf most wait (nu + 1) nf D Df
def LineG (w0 w : World) (b mu mf : Nat) (most wait : Int) (nu nf : Nat) (D Df : DataW Unit) (e : Ending) (w' : World) : Prop := e = .returned .nilIface ∧ RestG w0 w w' b mu mf most wait nu nf D Df
structure EndG (w W Wf : World) (b mu mf : Nat) (most wait : Int) (nu nf : Nat) (D Df : DataW Unit) (p : Nat) : Prop where
  g : W.grownBy Wf (some mu)
  lo : w.heap.size + 1 < p
  c : Wf.cell? ⟨p, 0, none⟩ = some (.int .i64 0)
  st : BookSt w Wf b mu mf most wait (nu + 1) nf D Df
theorem endGA {w W W' w6 : World} {b mu mf : Nat} {most wait : Int} {nu nf : Nat} {D Df : DataW Unit} (hl : w.heap.size + 1 < W.heap.size) (hb : Below W.heap.size W W') (h : RestG w W' w6 b mu mf most wait nu nf D Df) : EndG w W (w6.alloc (.cells #[.int .i64 0] 73)) b mu mf most wait nu nf D Df w6.heap.size := by
  obtain ⟨g, hst⟩ := h
  have ha : Below w6.heap.size w6 (w6.alloc (.cells #[.int .i64 0] 73)) := (Below.refl _ _).alloc (Nat.le_refl _) _
  have hg0 := ((grown_below hb (some mu)).trans g).size
  refine ⟨((grown_below hb (some mu)).trans g).trans (grown_below ha _), Nat.lt_of_lt_of_le hl hg0, ?_, hst.keep ha⟩
  rw [cell_of_row _ _ 0 _ 73 (0, 0) (World.alloc_heap_new w6 _)]; rfl
theorem endGB {w W w6 : World} {b mu mf : Nat} {most wait : Int} {nu nf : Nat} {D Df : DataW Unit} (hb : b < W.heap.size) (hl : w.heap.size + 1 < W.heap.size) (h : RestG w (W.drew.alloc (.cells #[.int .i64 0] 73)) w6 b mu mf most wait nu nf D Df) (hmu : mu < W.heap.size) (hmf : mf < W.heap.size) : EndG w W (w6.setCell ⟨W.heap.size, 0, none⟩ (.int .i64 0)) b mu mf most wait nu nf D Df W.heap.size := by
  have hw : w.heap.size ≤ W.heap.size := by omega
  obtain ⟨g, hst⟩ := h
  have gs := grown_setCell w6 W.heap.size 0 (.int .i64 0)
  have hal : Below W.heap.size W (W.drew.alloc (.cells #[.int .i64 0] 73)) := (Below.refl W.heap.size W).drew.alloc (Nat.le_refl _) _
  have g0 := (grown_below hal (some mu)).trans g
  have h1 : w6.heap[W.heap.size]? = some (.cells #[.int .i64 0] 73 (0, 0)) := by
    refine (g.block W.heap.size (by rw [World.size_alloc]; exact Nat.lt_succ_self _) (by simp; omega)).trans ?_
    exact World.alloc_heap_new W.drew _
  refine ⟨⟨gs.os.trans g0.os, gs.tape.trans g0.tape, gs.output.trans g0.output, Nat.le_trans g0.size gs.size, fun k hk hn => (gs.block k (Nat.lt_of_lt_of_le hk g0.size) (by simp; omega)).trans (g0.block k hk hn)⟩, hl, ?_, hst.far gs (by omega) (by omega) (by omega) hw⟩
  have : (w6.setCell ⟨W.heap.size, 0, none⟩ (.int .i64 0)).heap[W.heap.size]? = some (.cells #[.int .i64 0] 73 (0, 0)) := by rw [heap_setCell_same w6 W.heap.size 0 _ 73 _ h1]; rfl
  rw [cell_of_row _ _ 0 _ 73 (0, 0) this]; rfl
set_option maxRecDepth 100000 in
set_option maxHeartbeats 8000000 in
theorem read_good (us : List RU) (most wait : Int) (w : World) (m0 : 1 ≤ most) (m1 : most ≤ 9) (m2 : 1 ≤ wait) (m3 : wait ≤ 1000000) (hgood : ∀ u ∈ us, UGood u) (hsort : us.Pairwise fun a b => a.name.data.toList < b.name.data.toList) (h9 : us.length ≤ 9) (hv : LibV w) : Calls Tryz.prog 13 #[.string (textR us), .int .i64 most, .int .i64 wait] w (ReadG us w most wait) := by
  obtain ⟨s, hsE⟩ : ∃ s, s = textR us := ⟨_, rfl⟩
  rw [← hsE]
  have hs : s.size ≤ 1048576 := by
    have := textR_size us (fun u hu => (hgood u hu).ok)
    rw [hsE]; omega
  have HSE := Lib.hid hsE
  have HG := Lib.hid hgood
  have HSRT := Lib.hid hsort
  have HMW := Lib.hid (And.intro m0 (And.intro m1 (And.intro m2 m3)))
  clear hsE hgood hsort
  refine (callsIn_wide (n := 9)).1 ?_
  refine callsIn_of_wp_marks Tryz.func13 rfl trivial ?_ rfl
  simp only [Tryz.ntmps13, List.size_toArray, List.length_cons, List.length_nil, Nat.reduceAdd, Nat.reduceSub, Array.replicate_succ, Array.replicate_zero, List.push_toArray, List.append_toArray, List.nil_append, List.cons_append]
  gi_wp2_with (first
    | (refine ⟨trivial, ?_⟩; gi_at_call 4; refine (callsIn_wide.2 (st_new most wait _ HMW.out.1 HMW.out.2.1 HMW.out.2.2.1 HMW.out.2.2.2)).mono ?_; rintro e w2 ⟨b, mu, mf, rfl, h2⟩)
    | (refine ⟨trivial, ?_⟩; gi_at_call 26; refine (callsIn_wide.2 (lines_any s _)).mono ?_; rintro e w4 ⟨rfl, hw4⟩; rw [hw4]))
  have hb : b < w2.heap.size := (Array.getElem?_eq_some_iff.1 h2.at_).1
  have ho1 := h2.o1
  have ho2 := h2.o2
  have ho3 := h2.o3
  have hs1 : ((w.alloc (.cells #[.pointer none] 23)).alloc (.cells #[.int .i64 0] 24)).heap.size = w.heap.size + 2 := by simp
  have hs4 : w4.heap.size = w2.heap.size + 2 := by rw [hw4]; simp
  have hw1 : Below w.heap.size w ((w.alloc (.cells #[.pointer none] 23)).alloc (.cells #[.int .i64 0] 24)) := ((Below.refl _ _).alloc (Nat.le_refl _) _).alloc (by simp) _
  rw [hs1] at ho1
  have hr0 : w2.heap[w.heap.size]? = some (.cells #[.pointer none] 23 (0, 0)) := by
    refine (h2.below.block _ (by rw [hs1]; omega)).trans ?_
    exact (Below.heap_alloc _ _ _ (by simp)).trans (World.alloc_heap_new w _)
  have hr1 : w2.heap[w.heap.size + 1]? = some (.cells #[.int .i64 0] 24 (0, 0)) := by
    refine (h2.below.block _ (by rw [hs1]; omega)).trans ?_
    have := World.alloc_heap_new (w.alloc (.cells #[.pointer none] 23)) (.cells #[.int .i64 0] 24)
    rwa [World.size_alloc] at this
  have h3 := (h2.base hw1).keep (((Below.refl w2.heap.size w2).alloc (Nat.le_refl _) (.cells #[.pointer (some ⟨b, 0, none⟩)] 23)).alloc (by simp) (.cells #[.string s] 9))
  rw [← hw4]
  rw [← hw4] at h3
  have hk4 : ∀ k, k < w2.heap.size → w4.heap[k]? = w2.heap[k]? := fun k hk => by
    rw [hw4, Below.heap_alloc _ _ _ (by simp; omega), Below.heap_alloc _ _ _ hk]
  have hr8 : w4.heap[w2.heap.size]? = some (.cells #[.pointer (some ⟨b, 0, none⟩)] 23 (0, 0)) := by
    rw [hw4]; exact (Below.heap_alloc _ _ _ (by simp)).trans (World.alloc_heap_new w2 _)
  have hrc : w4.heap[w2.heap.size + 1]? = some (.cells #[.string s] 9 (0, 0)) := by
    rw [hw4]
    have := World.alloc_heap_new (w2.alloc (.cells #[.pointer (some ⟨b, 0, none⟩)] 23)) (.cells #[.string s] 9)
    rwa [World.size_alloc] at this
  have hHW := Lib.hid hw4
  clear hw4 hw1
  refine rangeLines (c := w2.heap.size + 1) (s := s) rfl (by omega) (gf := 41) (lb := #[.pointer (some ⟨w2.heap.size + 1, 0, none⟩)]) (by simp [Act.eval]) trivial (enters_of Tryz.func41 (by kernel_rfl) rfl)
    (lines_good (9 - 1) (by omega) (w2.heap.size + 1) s hs) hrc (ReadJ us w b mu mf most wait w2.heap.size) (fun _ => False) (fun xs A B r hi hg hr => hi.far hg hb ho1 ho2 ho3 (by omega)) (fun A B r hi hg hr => hi.elim) ⟨_, _, _, _, h3, Nat.le_refl _, ⟨Nat.zero_le _, rfl, sim_zero⟩, (hk4 _ (by omega)).trans hr0, (hk4 _ (by omega)).trans hr1, hr8, by omega⟩
    (fun x => { tmps := #[.string s, .int .i64 most, .int .i64 wait, undef, undef, undef, .pointer (some ⟨w.heap.size, 0, none⟩), .pointer (some ⟨w.heap.size + 1, 0, none⟩), .pointer (some ⟨w2.heap.size, 0, none⟩), .int .i64 0, .string x, undef, undef, .tuple #[.pointer (some ⟨b, 0, none⟩), .int .i64 0], .int .i64 most, .int .i64 wait, .tuple #[.pointer (some ⟨b, 0, none⟩), .int .i64 0], .pointer (some ⟨b, 0, none⟩), .int .i64 0, .int .i64 0, .bool false, undef, .string s, .func (.func 41) #[] #[.pointer (some ⟨w2.heap.size + 1, 0, none⟩)], .string x, undef, undef, undef, undef, undef, undef, undef, undef, undef, undef, undef, undef, undef, undef, undef, undef, undef, undef, undef, undef, undef, undef, undef, undef], defers := [] }) ?assign ?body ?done ?stop
  case assign =>
    intro l x W K hK
    gi_wp2
    exact hK
  case body =>
    rintro l pre x W hB2 ⟨D, Df, nu, nf, k1, k2, ⟨k3l, k3p, k3s⟩, k4, k5, k6, k7⟩ hlen
    obtain ⟨hkl, hxl⟩ := piece_step HG.out k3l k3p (by rw [← HSE.out]; exact hlen)
    obtain ⟨u, hu⟩ : ∃ u, u = us[pre.length] := ⟨_, rfl⟩
    rw [← hu] at hxl
    have hug : UGood u := HG.out u (by rw [hu]; exact List.getElem_mem _)
    obtain ⟨hmy, o, ho, ho32⟩ := hug
    obtain ⟨_, _, _, _, ht0, _, hg0, _⟩ := mayB_true hmy
    obtain ⟨n2, hn2⟩ : ∃ n : Nat, u.times = n := ⟨u.times.toNat, by omega⟩
    obtain ⟨n4, hn4⟩ : ∃ n : Nat, u.tag = n := ⟨u.tag.toNat, by omega⟩
    obtain ⟨y, hy⟩ : ∃ y, y = lineS u.name u.salt n2 u.hash n4 := ⟨_, rfl⟩
    have hxy : x = y ++ ⟨#[10]⟩ := by rw [hxl, hy]; unfold lineBu; rw [hn2, hn4]; rfl
    have hnone : findU (us.take pre.length) u.name = none := take_none HSRT.out hkl hu
    have hnew : Maps.has D (.string u.name.data.toList) = false := by
      have := k3s.has u.name
      rw [hnone] at this
      exact this
    obtain ⟨D', hD'⟩ : ∃ D', D' = D.put (.string u.name.data.toList) (entD u.salt u.times u.hash u.tag) := ⟨_, rfl⟩
    have hsim : SimU D' (us.take (pre.length + 1)) := by
      rw [hD', ← put_last HSRT.out hkl hu]
      exact k3s.put u hnone
    rw [hn2, hn4] at hD' hmy
    have hpl := k3l
    have hxs : x.size ≤ 9223372036854775807 := by
      have := piece_size hlen
      omega
    have HL : ∀ W', Below W.heap.size W W' → Calls Tryz.prog 27 #[.pointer (some ⟨b, 0, none⟩), .string y] W' (LineG w W' b mu mf most wait nu nf D' Df) := fun W' k => by
      rw [hy, hD']
      exact line_good (k1.keep k) u.name u.salt u.hash n2 n4 o hv (by omega) hmy ho ho32 hnew
    have HT : ∀ W', Calls Tryz.prog 28 #[.string x, .string ⟨#[10]⟩] W' fun e w' => e = .returned (.string y) ∧ w' = W' := fun W' => by
      rw [hxy] at hxs ⊢
      have := Tryz.strings_TrimSuffix (y ++ ⟨#[10]⟩) ⟨#[10]⟩ W' hxs
      rwa [trim_nl] at this
    have cb0 : W.cell? ⟨w2.heap.size, 0, none⟩ = some (.pointer (some ⟨b, 0, none⟩)) := by rw [cell_of_row W _ 0 _ 23 (0, 0) k6]; rfl
    have cbA : (W.drew.alloc (.cells #[.int .i64 0] 73)).cell? ⟨w2.heap.size, 0, none⟩ = some (.pointer (some ⟨b, 0, none⟩)) := ((((Below.refl W.heap.size W).drew).alloc (Nat.le_refl _) _).cell (p := ⟨w2.heap.size, 0, none⟩) (Array.getElem?_eq_some_iff.1 k6).1).trans cb0
    have cbB : (W.alloc (.cells #[.int .i64 0] 73)).cell? ⟨w2.heap.size, 0, none⟩ = some (.pointer (some ⟨b, 0, none⟩)) := (((Below.refl W.heap.size W).alloc (Nat.le_refl _) _).cell (p := ⟨w2.heap.size, 0, none⟩) (Array.getElem?_eq_some_iff.1 k6).1).trans cb0
    have hlt8 : w2.heap.size < W.heap.size := by omega
    have h11 : 1 ≤ 9 - 1 - 1 := by omega
    have hfol : Tryz.prog.follows .mixedOrders = true := by kernel_rfl
    have hmu : mu < W.heap.size := by omega
    have hEND : ∀ (Wf : World) (p : Nat), EndG w W Wf b mu mf most wait nu nf D' Df p → Wf.cell? ⟨p, 0, none⟩ = some (.int .i64 0) ∧ Wf.cell? ⟨w.heap.size, 0, none⟩ = some (.pointer none) ∧ Wf.frozen? ⟨w.heap.size, 0, none⟩ = false ∧ Wf.cell? ⟨w.heap.size + 1, 0, none⟩ = some (.int .i64 0) ∧ Wf.frozen? ⟨w.heap.size + 1, 0, none⟩ = false := fun Wf p h => by
      have j0 := kept_row k4 h.g (by omega)
      have j1 := kept_row k5 h.g (by omega)
      exact ⟨h.c, by rw [cell_of_row Wf _ 0 _ 23 (0, 0) j0]; rfl, frozen_of_row Wf _ 0 _ 23 j0, by rw [cell_of_row Wf _ 0 _ 24 (0, 0) j1]; rfl, frozen_of_row Wf _ 0 _ 24 j1⟩
    have hOK : ∀ (Wf : World) (p : Nat) (a : Act), EndG w W Wf b mu mf most wait nu nf D' Df p → boxPost w4.heap.size (w2.heap.size + 1) (ReadJ us w b mu mf most wait w2.heap.size) (fun _ => False) (pre ++ [x]) W .normal a Wf := fun Wf p a h => by
      refine ⟨fun j j1 j2 => h.g.block j (by omega) (by simp; omega), h.g.block _ (by omega) (by simp; omega), D', Df, nu + 1, nf, h.st, by rw [List.length_append]; simp; omega, ?_, kept_row k4 h.g (by omega), kept_row k5 h.g (by omega), kept_row k6 h.g (by omega), by have := h.g.size; omega⟩
      rw [List.length_append, List.length_singleton]
      refine ⟨hkl, ?_, hsim⟩
      rw [List.take_succ_eq_append_getElem hkl, List.map_append, ← k3p, ← hu, hxl]
      rfl
    have hlt3 : b < W.heap.size ∧ w.heap.size + 1 < W.heap.size ∧ mu < W.heap.size ∧ mf < W.heap.size := by omega
    have HLT := Lib.hid hlt3
    clear hlt3
    have HEND := Lib.hid hEND
    have HOK := Lib.hid hOK
    clear hEND hOK
    have HHL := Lib.hid HL
    have HHT := Lib.hid HT
    have HH := Lib.hid (And.intro hs (And.intro hv (And.intro hs4 (And.intro hb (And.intro ho1 (And.intro ho2 (And.intro ho3 (And.intro k1 (And.intro k2 (And.intro k4 (And.intro k5 (And.intro k6 k7))))))))))))
    clear HL HT hB2 hrc hr8 h3 hk4 hr0 hr1 h2 hHW hs1 hs hv hs4 hb ho1 ho2 ho3 hy k1 k2 k3l k3p k3s k4 k5 k6 k7 hlen hxs hkl hxl hu hmy ho ho32 ht0 hg0 hn2 hn4 hxy hnone hnew hD' hsim hpl
    have hta : ∀ W' : World, (Instr.typeAssert .nilIface 76 73 true).run Tryz.prog W' = .ok (.tuple #[.agg #[.int .i64 0], .bool false]) W' := fun W' => by kernel_rfl
    gi_wp2
    rename_i K6 hK6
    have hT : ∀ (Wf : World) (p : Nat), EndG w W Wf b mu mf most wait nu nf D' Df p → K6 { tmps := #[.string s, .int .i64 most, .int .i64 wait, undef, undef, undef, .pointer (some ⟨w.heap.size, 0, none⟩), .pointer (some ⟨w.heap.size + 1, 0, none⟩), .pointer (some ⟨w2.heap.size, 0, none⟩), .int .i64 0, .string x, .pointer (some ⟨p, 0, none⟩), .bool false, .tuple #[.pointer (some ⟨b, 0, none⟩), .int .i64 0], .int .i64 most, .int .i64 wait, .tuple #[.pointer (some ⟨b, 0, none⟩), .int .i64 0], .pointer (some ⟨b, 0, none⟩), .int .i64 0, .int .i64 0, .bool false, undef, .string s, .func (.func 41) #[] #[.pointer (some ⟨w2.heap.size + 1, 0, none⟩)], .string x, .tuple #[.agg #[.int .i64 0], .bool false], .pointer (some ⟨b, 0, none⟩), .string x, .string y, .nilIface, .tuple #[.agg #[.int .i64 0], .bool false], .agg #[.int .i64 0], .bool false, undef, undef, undef, undef, undef, undef, undef, undef, undef, undef, undef, undef, undef, undef, undef, undef], defers := [] } Wf := by
      intro Wf p E
      obtain ⟨cp, c0, f0, c1, f1⟩ := HEND.out _ _ E
      have EE := Lib.hid E
      clear E
      refine hK6 _ _ ?_
      clear hK6
      gi_wp2
      exact HOK.out _ _ _ EE.out
    have HT6 := Lib.hid hT
    clear hT
    gi_region_with_o (first
      | (refine ⟨trivial, ?_⟩; gi_at_call 28; refine (CallsIn.inRound l (callsIn_wide.2 (HHT.out _))).mono ?_; rintro e w' ⟨rfl, hw⟩; rw [hw]; clear hw w')
      | (refine ⟨trivial, ?_⟩; gi_at_call 27; refine (CallsIn.inRound l (callsIn_wide.2 (HHL.out _ (by first | exact Below.refl _ _ | exact (Below.refl _ _).drew | exact (Below.refl _ _).drew.alloc (Nat.le_refl _) _ | exact ((Below.refl _ _).alloc (Nat.le_refl _) _).drew)))).mono ?_; rintro e w6 ⟨rfl, hrest⟩; try (obtain ⟨hcx, hfx⟩ := rowX hrest.1 hmu); have REST := Lib.hid hrest; clear hrest))
    all_goals show K6 _ _
    all_goals first
      | exact HT6.out _ _ (endGA (W' := W.drew) HLT.out.2.1 (Below.refl _ _).drew (Hid.out (by assumption)))
      | exact HT6.out _ _ (endGB HLT.out.1 HLT.out.2.1 (Hid.out (by assumption)) HLT.out.2.2.1 HLT.out.2.2.2)
      | (trace_state; fail)
  case done =>
    rintro xs W hxl ⟨D, Df, nu, nf, k1, k2, ⟨k3l, k3p, k3s⟩, k4, k5, k6, k7⟩ hK
    have hall : xs.length = us.length := lines_all k3l k3p (by rw [← HSE.out]; exact hxl)
    rw [hall, List.take_length] at k3s
    have cb : W.cell? ⟨w2.heap.size, 0, none⟩ = some (.pointer (some ⟨b, 0, none⟩)) := by rw [cell_of_row W _ 0 _ 23 (0, 0) k6]; rfl
    have ct : Calls Tryz.prog 14 #[.pointer (some ⟨b, 0, none⟩)] W fun e w' => e = .returned (.string s) ∧ Below W.heap.size W w' := by
      rw [HSE.out]
      exact p_text k1 k3s (fun u hu => (HG.out u hu).ok) (by omega) hv
    obtain ⟨nz, hnz⟩ : ∃ z, z = Maps.size D := ⟨_, rfl⟩
    have hz9 : nz ≤ 9 := by rw [hnz, k3s.size]; exact h9
    have hk5 : ∀ W', Below W.heap.size W W' → W'.heap[w.heap.size]? = some (.cells #[.pointer none] 23 (0, 0)) ∧ W'.heap[w.heap.size + 1]? = some (.cells #[.int .i64 0] 24 (0, 0)) ∧ W'.heap[w2.heap.size]? = some (.cells #[.pointer (some ⟨b, 0, none⟩)] 23 (0, 0)) ∧ W'.heap[w4.heap.size]? = some (.deferred (some [])) := fun W' k =>
      ⟨(k.block _ (Array.getElem?_eq_some_iff.1 k4).1).trans k4, (k.block _ (Array.getElem?_eq_some_iff.1 k5).1).trans k5, (k.block _ (Array.getElem?_eq_some_iff.1 k6).1).trans k6, (k.block _ (Array.getElem?_eq_some_iff.1 hK).1).trans hK⟩
    have HK1 := Lib.hid k1
    have HK3 := Lib.hid k3s
    have HD := Lib.hid hnz
    have HK5 := Lib.hid hk5
    have HCT := Lib.hid ct
    have hfin : ∀ (w5 : World), Below W.heap.size W w5 → w5.cell? ⟨w2.heap.size, 0, none⟩ = some (.pointer (some ⟨b, 0, none⟩)) ∧ w5.cell? ⟨b, 2, none⟩ = some (.map (some mu)) ∧ (Builtin.len_ #[44] 3 #[.map (some mu)]).run Tryz.prog w5 = .ok (.int .i64 nz) w5 ∧ w5.cell? ⟨w.heap.size, 0, none⟩ = some (.pointer none) ∧ w5.frozen? ⟨w.heap.size, 0, none⟩ = false ∧ w5.cell? ⟨w.heap.size + 1, 0, none⟩ = some (.int .i64 0) ∧ w5.frozen? ⟨w.heap.size + 1, 0, none⟩ = false := fun w5 b5 => by
      obtain ⟨j0, j1, j8, jk⟩ := HK5.out w5 b5
      have k15 := HK1.out.keep b5
      refine ⟨by rw [cell_of_row w5 _ 0 _ 23 (0, 0) j8]; rfl, by rw [cell_of_row w5 b 2 _ 47 (0, 0) k15.at_]; rfl, ?_, by rw [cell_of_row w5 _ 0 _ 23 (0, 0) j0]; rfl, frozen_of_row w5 _ 0 _ 23 j0, by rw [cell_of_row w5 _ 0 _ 24 (0, 0) j1]; rfl, frozen_of_row w5 _ 0 _ 24 j1⟩
      rw [HD.out]; exact k15.hu.len und59 3
    have HFIN := Lib.hid hfin
    clear hnz k1 k2 k3l k3p k3s k4 k5 k6 hk5 ct hxl hall hr0 hr1 hr8 hrc h3 hk4 h2 hfin
    have hss : (s.toList == s.toList) = true := by simp
    have d9 : decide ((nz : Int) > 9) = false := decide_eq_false (by omega)
    gi_wp2_with (refine ⟨trivial, ?_⟩; gi_at_call 14; refine (callsIn_wide.2 HCT.out).mono ?_; rintro e w5 ⟨rfl, b5⟩; obtain ⟨cb5, cm5, L5, c05, f05, c15, f15⟩ := HFIN.out w5 b5; have B5 := Lib.hid b5; clear b5)
    obtain ⟨j0, j1, j8, jk⟩ := HK5.out _ B5.out
    have kb := (HK1.out.keep B5.out).below
    refine read_close kb j0 j1 (hs4 ▸ jk) (by omega) rfl rfl ?_
    intro W1 W2 W3 g1 g2 g3
    exact ⟨fin3 kb g1 g2 g3 (by omega), b, mu, mf, nu, nf, D, Df, rfl, (((HK1.out.keep B5.out).far g1 (by omega) (by omega) (by omega) (by omega)).far g2 (by omega) (by omega) (by omega) (by omega)).far g3 (by omega) (by omega) (by omega) (by omega), HK3.out⟩
  case stop =>
    rintro W k1 hK
    exact k1.elim
end Go.Proofs.YtkgbldkjpohinaaGreatDoor
