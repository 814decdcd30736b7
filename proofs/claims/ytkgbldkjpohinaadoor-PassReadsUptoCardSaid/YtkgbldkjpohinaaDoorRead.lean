/- Read: of any text. -/
import Derived.Test.YtkgbldkjpohinaaDoorLines
import Derived.Test.YtkgbldkjpohinaaDoorReadL
namespace Go.Proofs.YtkgbldkjpohinaaDoor
open Go.RowKit Go.Maps Go.Sort Go.Shelf
attribute [local go_sem] Oper.semAt_some
set_option linter.unusedVariables false
theorem lines_any (s : ByteArray) (w : World) : Calls Tryd.prog 24 #[.string s] w fun e w' => e = .returned (.func (.func 36) #[] #[.pointer (some ⟨w.heap.size, 0, none⟩)]) ∧ w' = w.alloc (.cells #[.string s] 9) := by
  go_enter Tryd.func24, Tryd.ntmps24
  go_wp2
  go_ret
  exact ⟨rfl, rfl⟩
section
variable {w0 w w' : World} {b mu mf : Nat} {tries wait : Int} {nu nf : Nat} {Du Df : DataW Unit}
theorem BookSt.far (h : BookSt w0 w b mu mf tries wait nu nf Du Df) {r : Nat} (hg : w.grownBy w' (some r)) (h1 : r ≠ b) (h2 : r ≠ mu) (h3 : r ≠ mf) (h4 : w0.heap.size ≤ r) : BookSt w0 w' b mu mf tries wait nu nf Du Df :=
  ⟨by have := h.at_; unfold BookAt at this ⊢; rw [← this]; exact hg.block b (Array.getElem?_eq_some_iff.1 h.at_).1 (by simp; omega), h.hu.kept hg (by simp; omega), h.hf.kept hg (by simp; omega), h.below.grown hg h.below.size (fun k hk => by cases hk; exact h4), h.o1, h.o2, h.o3⟩
theorem BookSt.base {W : World} (h : BookSt W w b mu mf tries wait nu nf Du Df) (hb : Below w0.heap.size w0 W) : BookSt w0 w b mu mf tries wait nu nf Du Df :=
  ⟨h.at_, h.hu, h.hf, hb.trans (h.below.mono hb.size), Nat.le_trans hb.size h.o1, h.o2, h.o3⟩
end
def ReadR (s : ByteArray) (w : World) (e : Ending) (w' : World) : Prop :=
  Below w.heap.size w w' ∧ ((∃ (b mu mf nu nf : Nat) (D Df : DataW Unit) (m : Nat), e = .returned (.tuple #[.pointer (some ⟨b, 0, none⟩), .int .i64 0]) ∧ BookSt w w' b mu mf 3 100 nu nf D Df ∧ DInv D m ∧ m ≤ s.size ∧ textOf D = s) ∨ (e = .returned (.tuple #[.pointer none, .int .i64 3]) ∧ s.size ≠ 0))
def ReadI (s : ByteArray) (w : World) (b mu mf n8 : Nat) (pre : List ByteArray) (W : World) : Prop :=
  ∃ (D Df : DataW Unit) (nu nf : Nat), BookSt w W b mu mf 3 100 nu nf D Df ∧ nu ≤ pre.length ∧ DInv D pre.length ∧ W.heap[w.heap.size]? = some (.cells #[.pointer none] 23 (0, 0)) ∧ W.heap[w.heap.size + 1]? = some (.cells #[.int .i64 0] 24 (0, 0)) ∧ W.heap[n8]? = some (.cells #[.pointer (some ⟨b, 0, none⟩)] 23 (0, 0)) ∧ n8 + 2 ≤ W.heap.size
def ReadX (s : ByteArray) (w : World) (W : World) : Prop :=
  Below w.heap.size w W ∧ W.heap[w.heap.size]? = some (.cells #[.pointer none] 23 (0, 0)) ∧ W.heap[w.heap.size + 1]? = some (.cells #[.int .i64 3] 24 (0, 0)) ∧ s.size ≠ 0
theorem kept_row {A B : World} {r k : Nat} {o : Obj} (h : A.heap[k]? = some o) (hg : A.grownBy B (some r)) (hk : k ≠ r) : B.heap[k]? = some o :=
  (hg.block k (Array.getElem?_eq_some_iff.1 h).1 (by simp; omega)).trans h
theorem ReadI.far {s : ByteArray} {w A B : World} {b mu mf n8 r : Nat} {pre : List ByteArray} (h : ReadI s w b mu mf n8 pre A) (hg : A.grownBy B (some r)) (hb : b < n8) (h1 : w.heap.size + 2 ≤ mu) (h2 : mu < mf) (h3 : mf < b) (hr : n8 < r) : ReadI s w b mu mf n8 pre B := by
  obtain ⟨D, Df, nu, nf, k1, k2, k3, k4, k5, k6, k7⟩ := h
  exact ⟨D, Df, nu, nf, k1.far hg (by omega) (by omega) (by omega) (by omega), k2, k3, kept_row k4 hg (by omega), kept_row k5 hg (by omega), kept_row k6 hg (by omega), by have := hg.size; omega⟩
theorem ReadX.far {s : ByteArray} {w A B : World} {r : Nat} (h : ReadX s w A) (hg : A.grownBy B (some r)) (hr : w.heap.size + 1 < r) : ReadX s w B := by
  obtain ⟨k1, k2, k3, k4⟩ := h
  exact ⟨k1.grown hg k1.size (fun k hk => by cases hk; omega), kept_row k2 hg (by omega), kept_row k3 hg (by omega), k4⟩
theorem read_end {w W : World} {t : Array Value} {k : Nat} {x : Value} {n : Int} {R : Ending → World → Prop} (hK : W.heap[k]? = some (.deferred (some []))) (hb : Below w.heap.size w W) (h0 : W.heap[w.heap.size]? = some (.cells #[x] 23 (0, 0))) (h1 : W.heap[w.heap.size + 1]? = some (.cells #[.int .i64 n] 24 (0, 0))) (hk : w.heap.size + 1 < k)
    (h6 : t[6]? = some (.pointer (some ⟨w.heap.size, 0, none⟩))) (h7 : t[7]? = some (.pointer (some ⟨w.heap.size + 1, 0, none⟩)))
    (hR : ∀ W', W.grownBy W' (some k) → R (.returned (.tuple #[x, .int .i64 n])) W') : LeavesInM Fence.wide 9 Tryd.prog Tryd.f12 t R [] .returning (W.putObj k (.deferred none)) := by
  have e0 : (W.putObj k (.deferred none)).cell? ⟨w.heap.size, 0, none⟩ = some x := by
    rw [cell_of_row _ _ 0 _ 23 (0, 0) ((World.putObj_heap_other (by omega)).trans h0)]; rfl
  have e1 : (W.putObj k (.deferred none)).cell? ⟨w.heap.size + 1, 0, none⟩ = some (.int .i64 n) := by
    rw [cell_of_row _ _ 0 _ 24 (0, 0) ((World.putObj_heap_other (by omega)).trans h1)]; rfl
  refine ⟨.tuple #[x, .int .i64 n], ?_, hR _ (grownBy_putObj' W k _)⟩
  simp [results, Tryd.f12, go_sem, e0, e1, h6, h7]
theorem grown_setCell (A : World) (r i : Nat) (u : Value) : A.grownBy (A.setCell ⟨r, i, none⟩ u) (some r) := ⟨rfl, rfl, rfl, by simp, fun k _ hk => heap_setCell_other A ⟨r, i, none⟩ k u (fun e => hk (by simp at e; rw [e]))⟩
theorem read_close {w w5 : World} {t : Array Value} {k : Nat} {x : Value} {n : Int} {R : Ending → World → Prop} (hb : Below w.heap.size w w5) (h0 : w5.heap[w.heap.size]? = some (.cells #[.pointer none] 23 (0, 0))) (h1 : w5.heap[w.heap.size + 1]? = some (.cells #[.int .i64 0] 24 (0, 0))) (hK : w5.heap[k]? = some (.deferred (some []))) (hk : w.heap.size + 1 < k)
    (h6 : t[6]? = some (.pointer (some ⟨w.heap.size, 0, none⟩))) (h7 : t[7]? = some (.pointer (some ⟨w.heap.size + 1, 0, none⟩)))
    (hR : ∀ W1 W2 W3, w5.grownBy W1 (some w.heap.size) → W1.grownBy W2 (some (w.heap.size + 1)) → W2.grownBy W3 (some k) → R (.returned (.tuple #[x, .int .i64 n])) W3) :
    LeavesInM Fence.wide 9 Tryd.prog Tryd.f12 t R [{ target := .collected k, args := #[] }] .returning ((w5.setCell ⟨w.heap.size, 0, none⟩ x).setCell ⟨w.heap.size + 1, 0, none⟩ (.int .i64 n)) := by
  have g1 := grown_setCell w5 w.heap.size 0 x
  have g2 := grown_setCell (w5.setCell ⟨w.heap.size, 0, none⟩ x) (w.heap.size + 1) 0 (.int .i64 n)
  have r0 : (w5.setCell ⟨w.heap.size, 0, none⟩ x).heap[w.heap.size]? = some (.cells #[x] 23 (0, 0)) := by rw [heap_setCell_same w5 w.heap.size 0 _ 23 x h0]; rfl
  have r1 := kept_row h1 g1 (by omega)
  have s1 : ((w5.setCell ⟨w.heap.size, 0, none⟩ x).setCell ⟨w.heap.size + 1, 0, none⟩ (.int .i64 n)).heap[w.heap.size + 1]? = some (.cells #[.int .i64 n] 24 (0, 0)) := by rw [heap_setCell_same _ (w.heap.size + 1) 0 _ 24 _ r1]; rfl
  have hK2 := kept_row (kept_row hK g1 (by omega)) g2 (by omega)
  have hb2 := (hb.grown g1 hb.size (fun k hk => by cases hk; omega))
  have hb3 := hb2.grown g2 hb2.size (fun k hk => by cases hk; omega)
  exact ⟨by simp, .inl ⟨_, _, rfl, run_takeDeferred hK2, read_end hK2 hb3 (kept_row r0 g2 (by omega)) s1 hk h6 h7 fun W3 g3 => hR _ _ _ g1 g2 g3⟩⟩
theorem fin3 {w w5 W1 W2 W3 : World} {k : Nat} (hb : Below w.heap.size w w5) (g1 : w5.grownBy W1 (some w.heap.size)) (g2 : W1.grownBy W2 (some (w.heap.size + 1))) (g3 : W2.grownBy W3 (some k)) (hk : w.heap.size ≤ k) : Below w.heap.size w W3 := by
  have hb2 := (hb.grown g1 hb.size (fun k hk => by cases hk; omega))
  have hb3 := hb2.grown g2 hb2.size (fun k hk => by cases hk; omega)
  exact hb3.grown g3 hb3.size (fun j hj => by cases hj; omega)
def RestA (w0 w w' : World) (b mu mf nu nf : Nat) (D Df : DataW Unit) (q : Bool) (n : Int) : Prop :=
  w.grownBy w' (some mu) ∧ ((q = false ∧ n = 0 ∧ ∃ (k sa ha : ByteArray) (t m : Int), Ent D k sa ha t m ∧ BookSt w0 w' b mu mf 3 100 (nu + 1) nf (D.put (.string k.data.toList) (entD sa t ha m)) Df) ∨ (q = true ∧ n = 3 ∧ BookSt w0 w' b mu mf 3 100 nu nf D Df))
def LineA (w0 w : World) (b mu mf nu nf : Nat) (D Df : DataW Unit) (e : Ending) (w' : World) : Prop :=
  ∃ (v : Value) (q : Bool) (n : Int), e = .returned v ∧ (∀ W', (Instr.typeAssert v 60 70 true).run Tryd.prog W' = .ok (.tuple #[.agg #[.int .i64 n], .bool q]) W') ∧ RestA w0 w w' b mu mf nu nf D Df q n
theorem lineA {w0 w : World} {b mu mf nu nf : Nat} {D Df : DataW Unit} {e : Ending} {w' : World} (h : LineR w0 w b mu mf 3 100 nu nf D Df e w') : LineA w0 w b mu mf nu nf D Df e w' := by
  obtain ⟨hg, ⟨k, sa, ha, t, m, rfl, h1, h2⟩ | ⟨rfl, h2⟩⟩ := h
  · exact ⟨_, false, 0, rfl, fun W' => by kernel_rfl, hg, .inl ⟨rfl, rfl, k, sa, ha, t, m, h1, h2⟩⟩
  · exact ⟨_, true, 3, rfl, fun W' => by kernel_rfl, hg, .inr ⟨rfl, rfl, h2⟩⟩
theorem rowX {W w6 : World} {mu : Nat} (h : (W.drew.alloc (.cells #[.int .i64 0] 70)).grownBy w6 (some mu)) (hmu : mu < W.heap.size) : w6.cell? ⟨W.heap.size, 0, none⟩ = some (.int .i64 0) ∧ w6.frozen? ⟨W.heap.size, 0, none⟩ = false := by
  have h1 : w6.heap[W.heap.size]? = some (.cells #[.int .i64 0] 70 (0, 0)) := by
    refine (h.block W.heap.size (by rw [World.size_alloc]; exact Nat.lt_succ_self _) (by simp; omega)).trans ?_
    exact World.alloc_heap_new W.drew _
  exact ⟨by rw [cell_of_row w6 _ 0 _ 70 (0, 0) h1]; rfl, frozen_of_row w6 _ 0 _ 70 h1⟩
structure EndR (w W Wf : World) (b mu mf nu nf : Nat) (D Df : DataW Unit) (p : Nat) (q : Bool) (n : Int) : Prop where
  g : W.grownBy Wf (some mu)
  lo : w.heap.size + 1 < p
  c : Wf.cell? ⟨p, 0, none⟩ = some (.int .i64 n)
  st : (q = false ∧ ∃ (k sa ha : ByteArray) (t m : Int), Ent D k sa ha t m ∧ BookSt w Wf b mu mf 3 100 (nu + 1) nf (D.put (.string k.data.toList) (entD sa t ha m)) Df) ∨ (q = true ∧ n = 3 ∧ BookSt w Wf b mu mf 3 100 nu nf D Df)
theorem endA {w W W' w6 : World} {b mu mf nu nf : Nat} {D Df : DataW Unit} {q : Bool} {n : Int} (hl : w.heap.size + 1 < W.heap.size) (hb : Below W.heap.size W W') (h : RestA w W' w6 b mu mf nu nf D Df q n) : EndR w W (w6.alloc (.cells #[.int .i64 n] 70)) b mu mf nu nf D Df w6.heap.size q n := by
  obtain ⟨g, hst⟩ := h
  have ha : Below w6.heap.size w6 (w6.alloc (.cells #[.int .i64 n] 70)) := (Below.refl _ _).alloc (Nat.le_refl _) _
  have hg0 := ((grown_below hb (some mu)).trans g).size
  refine ⟨((grown_below hb (some mu)).trans g).trans (grown_below ha _), Nat.lt_of_lt_of_le hl hg0, ?_, ?_⟩
  · rw [cell_of_row _ _ 0 _ 70 (0, 0) (World.alloc_heap_new w6 _)]; rfl
  · rcases hst with ⟨e, _, k, sa, hh, t, m, h1, h2⟩ | ⟨e, hn, h2⟩
    · exact .inl ⟨e, k, sa, hh, t, m, h1, h2.keep ha⟩
    · exact .inr ⟨e, hn, h2.keep ha⟩
theorem endB {w W w6 : World} {b mu mf nu nf : Nat} {D Df : DataW Unit} {q : Bool} {n : Int} (hb : b < W.heap.size) (hl : w.heap.size + 1 < W.heap.size) (h : RestA w (W.drew.alloc (.cells #[.int .i64 0] 70)) w6 b mu mf nu nf D Df q n) (hmu : mu < W.heap.size) (hmf : mf < W.heap.size) : EndR w W (w6.setCell ⟨W.heap.size, 0, none⟩ (.int .i64 n)) b mu mf nu nf D Df W.heap.size q n := by
  have hw : w.heap.size ≤ W.heap.size := by omega
  obtain ⟨g, hst⟩ := h
  have gs := grown_setCell w6 W.heap.size 0 (.int .i64 n)
  have hal : Below W.heap.size W (W.drew.alloc (.cells #[.int .i64 0] 70)) := (Below.refl W.heap.size W).drew.alloc (Nat.le_refl _) _
  have g0 := (grown_below hal (some mu)).trans g
  have h1 : w6.heap[W.heap.size]? = some (.cells #[.int .i64 0] 70 (0, 0)) := by
    refine (g.block W.heap.size (by rw [World.size_alloc]; exact Nat.lt_succ_self _) (by simp; omega)).trans ?_
    exact World.alloc_heap_new W.drew _
  refine ⟨⟨gs.os.trans g0.os, gs.tape.trans g0.tape, gs.output.trans g0.output, Nat.le_trans g0.size gs.size, fun k hk hn => (gs.block k (Nat.lt_of_lt_of_le hk g0.size) (by simp; omega)).trans (g0.block k hk hn)⟩, hl, ?_, ?_⟩
  · have : (w6.setCell ⟨W.heap.size, 0, none⟩ (.int .i64 n)).heap[W.heap.size]? = some (.cells #[.int .i64 n] 70 (0, 0)) := by rw [heap_setCell_same w6 W.heap.size 0 _ 70 _ h1]; rfl
    rw [cell_of_row _ _ 0 _ 70 (0, 0) this]; rfl
  · rcases hst with ⟨e, _, k, sa, hh, t, m, h1, h2⟩ | ⟨e, hn, h2⟩
    · exact .inl ⟨e, k, sa, hh, t, m, h1, h2.far gs (by omega) (by omega) (by omega) hw⟩
    · exact .inr ⟨e, hn, h2.far gs (by omega) (by omega) (by omega) hw⟩
set_option maxRecDepth 100000 in
set_option maxHeartbeats 8000000 in
theorem read_any (s : ByteArray) (w : World) (hs : s.size ≤ 1048576) (hv : LibV w) : Calls Tryd.prog 12 #[.string s, .int .i64 3, .int .i64 100] w (ReadR s w) := by
  refine (callsIn_wide (n := 9)).1 ?_
  refine callsIn_of_wp_marks Tryd.func12 rfl trivial ?_ rfl
  simp only [Tryd.ntmps12, List.size_toArray, List.length_cons, List.length_nil, Nat.reduceAdd, Nat.reduceSub, Array.replicate_succ, Array.replicate_zero, List.push_toArray, List.append_toArray, List.nil_append, List.cons_append]
  gi_wp2_with (first
    | (refine ⟨trivial, ?_⟩; gi_at_call 6; refine (callsIn_wide.2 (st_new 3 100 _ (by omega) (by omega) (by omega) (by omega))).mono ?_; rintro e w2 ⟨b, mu, mf, rfl, h2⟩)
    | (refine ⟨trivial, ?_⟩; gi_at_call 24; refine (callsIn_wide.2 (lines_any s _)).mono ?_; rintro e w4 ⟨rfl, hw4⟩; rw [hw4]))
  have hb : b < w2.heap.size := (Array.getElem?_eq_some_iff.1 h2.at_).1
  have ho1 := h2.o1
  have ho2 := h2.o2
  have ho3 := h2.o3
  have hs1 : ((w.alloc (.cells #[.pointer none] 23)).alloc (.cells #[.int .i64 0] 24)).heap.size = w.heap.size + 2 := by simp
  have hs4 : w4.heap.size = w2.heap.size + 2 := by rw [hw4]; simp
  have hw1 : Below w.heap.size w ((w.alloc (.cells #[.pointer none] 23)).alloc (.cells #[.int .i64 0] 24)) := ((Below.refl _ _).alloc (Nat.le_refl _) _).alloc (by simp) _
  rw [hs1] at ho1
  have hr0 : w2.heap[w.heap.size]? = some (.cells #[.pointer none] 23 (0, 0)) := by
    refine (h2.below.block _ (by rw [hs1]; omega)).trans ?_
    exact (Below.heap_alloc _ _ _ (by simp)).trans (World.alloc_heap_new w _)
  have hr1 : w2.heap[w.heap.size + 1]? = some (.cells #[.int .i64 0] 24 (0, 0)) := by
    refine (h2.below.block _ (by rw [hs1]; omega)).trans ?_
    have := World.alloc_heap_new (w.alloc (.cells #[.pointer none] 23)) (.cells #[.int .i64 0] 24)
    rwa [World.size_alloc] at this
  have h3 := (h2.base hw1).keep (((Below.refl w2.heap.size w2).alloc (Nat.le_refl _) (.cells #[.pointer (some ⟨b, 0, none⟩)] 23)).alloc (by simp) (.cells #[.string s] 9))
  rw [← hw4]
  rw [← hw4] at h3
  have hk4 : ∀ k, k < w2.heap.size → w4.heap[k]? = w2.heap[k]? := fun k hk => by
    rw [hw4, Below.heap_alloc _ _ _ (by simp; omega), Below.heap_alloc _ _ _ hk]
  have hr8 : w4.heap[w2.heap.size]? = some (.cells #[.pointer (some ⟨b, 0, none⟩)] 23 (0, 0)) := by
    rw [hw4]; exact (Below.heap_alloc _ _ _ (by simp)).trans (World.alloc_heap_new w2 _)
  have hrc : w4.heap[w2.heap.size + 1]? = some (.cells #[.string s] 9 (0, 0)) := by
    rw [hw4]
    have := World.alloc_heap_new (w2.alloc (.cells #[.pointer (some ⟨b, 0, none⟩)] 23)) (.cells #[.string s] 9)
    rwa [World.size_alloc] at this
  have hHW := Lib.hid hw4
  clear hw4 hw1
  refine rangeBox (c := w2.heap.size + 1) (s := s) rfl (by omega) (gf := 36) (lb := #[.pointer (some ⟨w2.heap.size + 1, 0, none⟩)]) (by simp [Act.eval]) trivial (enters_of Tryd.func36 (by kernel_rfl) rfl)
    (lines_in (9 - 1) (by omega) (w2.heap.size + 1) s hs) hrc (ReadI s w b mu mf w2.heap.size) (ReadX s w) (fun xs A B r hi hg hr => hi.far hg hb ho1 ho2 ho3 (by omega)) (fun A B r hi hg hr => hi.far hg (by omega)) ⟨_, _, _, _, h3, Nat.le_refl _, dinv_zero, (hk4 _ (by omega)).trans hr0, (hk4 _ (by omega)).trans hr1, hr8, by omega⟩
    (fun x => { tmps := #[.string s, .int .i64 3, .int .i64 100, undef, undef, undef, .pointer (some ⟨w.heap.size, 0, none⟩), .pointer (some ⟨w.heap.size + 1, 0, none⟩), .pointer (some ⟨w2.heap.size, 0, none⟩), .int .i64 0, .string x, undef, undef, .tuple #[.pointer (some ⟨b, 0, none⟩), .int .i64 0], .int .i64 3, .int .i64 100, .tuple #[.pointer (some ⟨b, 0, none⟩), .int .i64 0], .pointer (some ⟨b, 0, none⟩), .int .i64 0, .int .i64 0, .bool false, undef, .string s, .func (.func 36) #[] #[.pointer (some ⟨w2.heap.size + 1, 0, none⟩)], .string x, undef, undef, undef, undef, undef, undef, undef, undef, undef, undef, undef, undef, undef, undef, undef, undef, undef, undef, undef, undef, undef, undef, undef, undef], defers := [] }) ?assign ?body ?done ?stop
  case assign =>
    intro l x W K hK
    gi_wp2
    exact hK
  case body =>
    rintro l pre x W hB2 ⟨D, Df, nu, nf, k1, k2, k3, k4, k5, k6, k7⟩ hlen hxs
    obtain ⟨y, hy⟩ : ∃ y, y = (⟨(Lib.trimSuffix x.data.toList (ByteArray.mk #[10]).data.toList).toArray⟩ : ByteArray) := ⟨_, rfl⟩
    have hys : y.size ≤ 1048576 := by
      rw [hy]
      have : (Lib.trimSuffix x.data.toList (ByteArray.mk #[10]).data.toList).length ≤ x.data.toList.length := by
        unfold Lib.trimSuffix
        split
        · rw [List.length_take]; omega
        · exact Nat.le_refl _
      have e : x.data.toList.length = x.size := by simp
      show (Lib.trimSuffix x.data.toList (ByteArray.mk #[10]).data.toList).toArray.size ≤ 1048576
      rw [List.size_toArray]; omega
    have HL : ∀ W', Below W.heap.size W W' → Calls Tryd.prog 25 #[.pointer (some ⟨b, 0, none⟩), .string y] W' (LineA w W' b mu mf nu nf D Df) := fun W' k => (line_any (k1.keep k) y hys hv (by omega)).mono fun e w' h => lineA h
    have HT : ∀ W', Calls Tryd.prog 26 #[.string x, .string ⟨#[10]⟩] W' fun e w' => e = .returned (.string y) ∧ w' = W' := fun W' => by
      rw [hy]; exact Tryd.strings_TrimSuffix x ⟨#[10]⟩ W' (by omega)
    have cb0 : W.cell? ⟨w2.heap.size, 0, none⟩ = some (.pointer (some ⟨b, 0, none⟩)) := by rw [cell_of_row W _ 0 _ 23 (0, 0) k6]; rfl
    have cbA : (W.drew.alloc (.cells #[.int .i64 0] 70)).cell? ⟨w2.heap.size, 0, none⟩ = some (.pointer (some ⟨b, 0, none⟩)) := ((((Below.refl W.heap.size W).drew).alloc (Nat.le_refl _) _).cell (p := ⟨w2.heap.size, 0, none⟩) (Array.getElem?_eq_some_iff.1 k6).1).trans cb0
    have cbB : (W.alloc (.cells #[.int .i64 0] 70)).cell? ⟨w2.heap.size, 0, none⟩ = some (.pointer (some ⟨b, 0, none⟩)) := (((Below.refl W.heap.size W).alloc (Nat.le_refl _) _).cell (p := ⟨w2.heap.size, 0, none⟩) (Array.getElem?_eq_some_iff.1 k6).1).trans cb0
    have hlt8 : w2.heap.size < W.heap.size := by omega
    have h11 : 1 ≤ 9 - 1 - 1 := by omega
    have hfol : Tryd.prog.follows .mixedOrders = true := by kernel_rfl
    have hmu : mu < W.heap.size := by omega
    have hEND : ∀ (Wf : World) (p : Nat) (q : Bool) (n : Int), EndR w W Wf b mu mf nu nf D Df p q n → Wf.cell? ⟨p, 0, none⟩ = some (.int .i64 n) ∧ Wf.cell? ⟨w.heap.size, 0, none⟩ = some (.pointer none) ∧ Wf.frozen? ⟨w.heap.size, 0, none⟩ = false ∧ Wf.cell? ⟨w.heap.size + 1, 0, none⟩ = some (.int .i64 0) ∧ Wf.frozen? ⟨w.heap.size + 1, 0, none⟩ = false := fun Wf p q n h => by
      have j0 := kept_row k4 h.g (by omega)
      have j1 := kept_row k5 h.g (by omega)
      exact ⟨h.c, by rw [cell_of_row Wf _ 0 _ 23 (0, 0) j0]; rfl, frozen_of_row Wf _ 0 _ 23 j0, by rw [cell_of_row Wf _ 0 _ 24 (0, 0) j1]; rfl, frozen_of_row Wf _ 0 _ 24 j1⟩
    have hOK : ∀ (Wf : World) (p : Nat) (n : Int) (a : Act), EndR w W Wf b mu mf nu nf D Df p false n → boxPost w4.heap.size (w2.heap.size + 1) (ReadI s w b mu mf w2.heap.size) (ReadX s w) (pre ++ [x]) W .normal a Wf := fun Wf p n a h => by
      obtain ⟨_, e1⟩ | ⟨e, _⟩ := h.st
      · obtain ⟨k, sa, ha, t, m, hent, hst⟩ := e1
        refine ⟨fun j j1 j2 => h.g.block j (by omega) (by simp; omega), h.g.block _ (by omega) (by simp; omega), _, Df, nu + 1, nf, hst, by rw [List.length_append]; simp; omega, ?_, kept_row k4 h.g (by omega), kept_row k5 h.g (by omega), kept_row k6 h.g (by omega), by have := h.g.size; omega⟩
        rw [List.length_append]
        exact k3.put hent
      · cases e
    have hNO : ∀ (Wf : World) (p : Nat) (n : Int) (a : Act), EndR w W Wf b mu mf nu nf D Df p true n → boxPost w4.heap.size (w2.heap.size + 1) (ReadI s w b mu mf w2.heap.size) (ReadX s w) (pre ++ [x]) W .ret a ((Wf.drew.setCell ⟨w.heap.size, 0, none⟩ (.pointer none)).setCell ⟨w.heap.size + 1, 0, none⟩ (.int .i64 n)) := fun Wf p n a h => by
      obtain ⟨e, _⟩ | ⟨_, hn, hst⟩ := h.st
      · cases e
      · subst hn
        have j0' := kept_row k4 h.g (by omega)
        have j0 : Wf.drew.heap[w.heap.size]? = some (.cells #[.pointer none] 23 (0, 0)) := j0'
        have j1' := kept_row k5 h.g (by omega)
        have j1 : Wf.drew.heap[w.heap.size + 1]? = some (.cells #[.int .i64 0] 24 (0, 0)) := j1'
        have g1 := grown_setCell Wf.drew w.heap.size 0 (.pointer none)
        have g2 := grown_setCell (Wf.drew.setCell ⟨w.heap.size, 0, none⟩ (.pointer none)) (w.heap.size + 1) 0 (.int .i64 3)
        have r0 : (Wf.drew.setCell ⟨w.heap.size, 0, none⟩ (.pointer none)).heap[w.heap.size]? = some (.cells #[.pointer none] 23 (0, 0)) := by rw [heap_setCell_same Wf.drew w.heap.size 0 _ 23 _ j0]; rfl
        have r1 := kept_row j1 g1 (by omega)
        have s1 : ((Wf.drew.setCell ⟨w.heap.size, 0, none⟩ (.pointer none)).setCell ⟨w.heap.size + 1, 0, none⟩ (.int .i64 3)).heap[w.heap.size + 1]? = some (.cells #[.int .i64 3] 24 (0, 0)) := by rw [heap_setCell_same _ (w.heap.size + 1) 0 _ 24 _ r1]; rfl
        have kb : Below w.heap.size w Wf.drew := hst.below.drew
        have hb2 := (kb.grown g1 kb.size (fun k hk => by cases hk; omega))
        have hb3 := hb2.grown g2 hb2.size (fun k hk => by cases hk; omega)
        have hgs := h.g.size
        have hgd : Wf.drew.heap.size = Wf.heap.size := rfl
        refine ⟨fun j j1 j2 => ?_, hb3, kept_row r0 g2 (by omega), s1, by omega⟩
        rw [g2.block j (by have := g1.size; omega) (by simp; omega), g1.block j (by omega) (by simp; omega)]
        exact h.g.block j (by omega) (by simp; omega)
    have hlt3 : b < W.heap.size ∧ w.heap.size + 1 < W.heap.size ∧ mu < W.heap.size ∧ mf < W.heap.size := by omega
    have HLT := Lib.hid hlt3
    clear hlt3
    have HEND := Lib.hid hEND
    have HOK := Lib.hid hOK
    have HNO := Lib.hid hNO
    clear hEND hOK hNO
    have HHL := Lib.hid HL
    have HHT := Lib.hid HT
    have HH := Lib.hid (And.intro hs (And.intro hv (And.intro hs4 (And.intro hb (And.intro ho1 (And.intro ho2 (And.intro ho3 (And.intro k1 (And.intro k2 (And.intro k3 (And.intro k4 (And.intro k5 (And.intro k6 (And.intro k7 (And.intro hlen hxs)))))))))))))))
    clear HL HT hB2 hrc hr8 h3 hk4 hr0 hr1 h2 hHW hs1 hs hv hs4 hb ho1 ho2 ho3 hy hys k1 k2 k3 k4 k5 k6 k7 hlen hxs
    gi_wp2
    rename_i K6 hK6
    have hT : ∀ (Wf : World) (p : Nat) (q : Bool) (n : Int) (v : Value), EndR w W Wf b mu mf nu nf D Df p q n → K6 { tmps := #[.string s, .int .i64 3, .int .i64 100, undef, undef, undef, .pointer (some ⟨w.heap.size, 0, none⟩), .pointer (some ⟨w.heap.size + 1, 0, none⟩), .pointer (some ⟨w2.heap.size, 0, none⟩), .int .i64 0, .string x, .pointer (some ⟨p, 0, none⟩), .bool q, .tuple #[.pointer (some ⟨b, 0, none⟩), .int .i64 0], .int .i64 3, .int .i64 100, .tuple #[.pointer (some ⟨b, 0, none⟩), .int .i64 0], .pointer (some ⟨b, 0, none⟩), .int .i64 0, .int .i64 0, .bool false, undef, .string s, .func (.func 36) #[] #[.pointer (some ⟨w2.heap.size + 1, 0, none⟩)], .string x, .tuple #[.agg #[.int .i64 n], .bool q], .pointer (some ⟨b, 0, none⟩), .string x, .string y, v, .tuple #[.agg #[.int .i64 n], .bool q], .agg #[.int .i64 n], .bool q, undef, undef, undef, undef, undef, undef, undef, undef, undef, undef, undef, undef, undef, undef, undef, undef], defers := [] } Wf := by
      intro Wf p q n v E
      obtain ⟨cp, c0, f0, c1, f1⟩ := HEND.out _ _ _ _ E
      have lo := E.lo
      have cs : (Wf.drew.setCell ⟨w.heap.size, 0, none⟩ (.pointer none)).cell? ⟨p, 0, none⟩ = some (.int .i64 n) := (World.cell?_of_block (heap_setCell_other Wf.drew ⟨w.heap.size, 0, none⟩ p _ (by show ¬ p = w.heap.size; omega))).trans cp
      have EE := Lib.hid E
      clear E
      refine hK6 _ _ ?_
      clear hK6
      cases q
      · gi_wp2
        exact HOK.out _ _ _ _ EE.out
      · gi_wp2
        gi_region_with_o (fail)
        all_goals gi_wp2
        all_goals exact HNO.out _ _ _ _ EE.out
    have HT6 := Lib.hid hT
    clear hT
    gi_region_with_o (first
      | (refine ⟨trivial, ?_⟩; gi_at_call 26; refine (CallsIn.inRound l (callsIn_wide.2 (HHT.out _))).mono ?_; rintro e w' ⟨rfl, hw⟩; rw [hw]; clear hw w')
      | (refine ⟨trivial, ?_⟩; gi_at_call 25; refine (CallsIn.inRound l (callsIn_wide.2 (HHL.out _ (by first | exact Below.refl _ _ | exact (Below.refl _ _).drew | exact (Below.refl _ _).drew.alloc (Nat.le_refl _) _ | exact ((Below.refl _ _).alloc (Nat.le_refl _) _).drew)))).mono ?_; rintro e w6 ⟨v, q, n, rfl, ha, hrest⟩; try (obtain ⟨hcx, hfx⟩ := rowX hrest.1 hmu); have REST := Lib.hid hrest; clear hrest))
    all_goals show K6 _ _
    all_goals first
      | exact HT6.out _ _ _ _ _ (endA (W' := W.drew) HLT.out.2.1 (Below.refl _ _).drew (Hid.out (by assumption)))
      | exact HT6.out _ _ _ _ _ (endB HLT.out.1 HLT.out.2.1 (Hid.out (by assumption)) HLT.out.2.2.1 HLT.out.2.2.2)
      | (trace_state; fail)
  case done =>
    rintro xs W hxl ⟨D, Df, nu, nf, k1, k2, k3, k4, k5, k6, k7⟩ hK
    obtain ⟨q1, q2, q3⟩ := k3.keys
    have hsz := textL_short (D := D) (keysOf D) q3
    have cb : W.cell? ⟨w2.heap.size, 0, none⟩ = some (.pointer (some ⟨b, 0, none⟩)) := by rw [cell_of_row W _ 0 _ 23 (0, 0) k6]; rfl
    have ct := text_any b mu mf nu D 3 100 W k1.at_ k1.hu (by omega) (by omega) q3 (by omega) (hv.below k1.below (Nat.le_refl _)).pow
    have hemp : s.size = 0 → textOf D = s ∧ Maps.size D = 0 := fun h => by
      obtain ⟨es, rfl, hl⟩ := k3.map
      have : es = [] := List.length_eq_zero_iff.1 (by omega)
      subst this
      refine ⟨?_, rfl⟩
      have : s = ⟨#[]⟩ := by
        apply ByteArray.ext
        exact Array.eq_empty_of_size_eq_zero h
      rw [this]
      unfold textOf keysOf
      rw [show strKeys (DataW.map []) = [] from rfl]
      simp [textL]
    have HEMP := Lib.hid hemp
    have HXL := Lib.hid hxl
    clear hemp hsz q1 q2 hxl
    obtain ⟨T, hT⟩ : ∃ T, T = textOf D := ⟨_, rfl⟩
    obtain ⟨nz, hnz⟩ : ∃ z, z = Maps.size D := ⟨_, rfl⟩
    rw [← hT] at ct
    rw [← hT, ← hnz] at HEMP
    have hk5 : ∀ W', Below W.heap.size W W' → W'.heap[w.heap.size]? = some (.cells #[.pointer none] 23 (0, 0)) ∧ W'.heap[w.heap.size + 1]? = some (.cells #[.int .i64 0] 24 (0, 0)) ∧ W'.heap[w2.heap.size]? = some (.cells #[.pointer (some ⟨b, 0, none⟩)] 23 (0, 0)) ∧ W'.heap[w4.heap.size]? = some (.deferred (some [])) := fun W' k =>
      ⟨(k.block _ (Array.getElem?_eq_some_iff.1 k4).1).trans k4, (k.block _ (Array.getElem?_eq_some_iff.1 k5).1).trans k5, (k.block _ (Array.getElem?_eq_some_iff.1 k6).1).trans k6, (k.block _ (Array.getElem?_eq_some_iff.1 hK).1).trans hK⟩
    have HK1 := Lib.hid k1
    have HK3 := Lib.hid k3
    have HD := Lib.hid (And.intro hT hnz)
    have HK5 := Lib.hid hk5
    have HCT := Lib.hid ct
    have hfin : ∀ (w5 : World), Below W.heap.size W w5 → w5.cell? ⟨w2.heap.size, 0, none⟩ = some (.pointer (some ⟨b, 0, none⟩)) ∧ w5.cell? ⟨b, 2, none⟩ = some (.map (some mu)) ∧ (Builtin.len_ #[36] 3 #[.map (some mu)]).run Tryd.prog w5 = .ok (.int .i64 nz) w5 ∧ w5.cell? ⟨w.heap.size, 0, none⟩ = some (.pointer none) ∧ w5.frozen? ⟨w.heap.size, 0, none⟩ = false ∧ w5.cell? ⟨w.heap.size + 1, 0, none⟩ = some (.int .i64 0) ∧ w5.frozen? ⟨w.heap.size + 1, 0, none⟩ = false := fun w5 b5 => by
      obtain ⟨j0, j1, j8, jk⟩ := HK5.out w5 b5
      have k15 := HK1.out.keep b5
      refine ⟨by rw [cell_of_row w5 _ 0 _ 23 (0, 0) j8]; rfl, by rw [cell_of_row w5 b 2 _ 39 (0, 0) k15.at_]; rfl, ?_, by rw [cell_of_row w5 _ 0 _ 23 (0, 0) j0]; rfl, frozen_of_row w5 _ 0 _ 23 j0, by rw [cell_of_row w5 _ 0 _ 24 (0, 0) j1]; rfl, frozen_of_row w5 _ 0 _ 24 j1⟩
      rw [HD.out.2]; exact k15.hu.len und59 3
    have HFIN := Lib.hid hfin
    clear hT hnz k1 k2 k3 k4 k5 k6 q3 hk5 ct hr0 hr1 hr8 hrc h3 hk4 h2 hfin
    by_cases hTs : T = s
    · have hne : (T.toList == s.toList) = true := by rw [hTs]; simp
      have HTS := Lib.hid hTs
      clear hTs
      gi_wp2_with (refine ⟨trivial, ?_⟩; gi_at_call 9; refine (callsIn_wide.2 HCT.out).mono ?_; rintro e w5 ⟨rfl, b5⟩; obtain ⟨cb5, cm5, L5, c05, f05, c15, f15⟩ := HFIN.out w5 b5; have B5 := Lib.hid b5; clear b5)
      · rename_i h9
        obtain ⟨j0, j1, j8, jk⟩ := HK5.out _ B5.out
        have kb := (HK1.out.keep B5.out).below
        refine read_close kb j0 j1 (hs4 ▸ jk) (by omega) rfl rfl ?_
        intro W1 W2 W3 g1 g2 g3
        exact ⟨fin3 kb g1 g2 g3 (by omega), .inr ⟨rfl, fun h => by have := (HEMP.out h).2; omega⟩⟩
      · obtain ⟨j0, j1, j8, jk⟩ := HK5.out _ B5.out
        have kb := (HK1.out.keep B5.out).below
        refine read_close kb j0 j1 (hs4 ▸ jk) (by omega) rfl rfl ?_
        intro W1 W2 W3 g1 g2 g3
        exact ⟨fin3 kb g1 g2 g3 (by omega), .inl ⟨b, mu, mf, nu, nf, D, Df, xs.length, rfl, (((HK1.out.keep B5.out).far g1 (by omega) (by omega) (by omega) (by omega)).far g2 (by omega) (by omega) (by omega) (by omega)).far g3 (by omega) (by omega) (by omega) (by omega), HK3.out, HXL.out, by rw [← HD.out.1, HTS.out]⟩⟩
    · have hne : (T.toList == s.toList) = false := beq_false_of hTs
      have HTS := Lib.hid hTs
      clear hTs
      gi_wp2_with (refine ⟨trivial, ?_⟩; gi_at_call 9; refine (callsIn_wide.2 HCT.out).mono ?_; rintro e w5 ⟨rfl, b5⟩; obtain ⟨cb5, cm5, L5, c05, f05, c15, f15⟩ := HFIN.out w5 b5; have B5 := Lib.hid b5; clear b5)
      obtain ⟨j0, j1, j8, jk⟩ := HK5.out _ B5.out
      have kb := (HK1.out.keep B5.out).below
      refine read_close kb j0 j1 (hs4 ▸ jk) (by omega) rfl rfl ?_
      intro W1 W2 W3 g1 g2 g3
      exact ⟨fin3 kb g1 g2 g3 (by omega), .inr ⟨rfl, fun h => HTS.out (HEMP.out h).1⟩⟩
  case stop =>
    rintro W ⟨k1, k2, k3, k4⟩ hK
    gi_wp2
    refine ⟨by simp, .inl ⟨_, _, rfl, run_takeDeferred hK, ?_⟩⟩
    exact read_end hK k1 k2 k3 (by omega) rfl rfl fun W' hg => ⟨k1.grown hg k1.size (fun k hk => by cases hk; omega), .inr ⟨rfl, k4⟩⟩
end Go.Proofs.YtkgbldkjpohinaaDoor
