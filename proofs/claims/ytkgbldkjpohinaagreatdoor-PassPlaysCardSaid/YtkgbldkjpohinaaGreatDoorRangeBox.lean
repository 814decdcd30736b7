/- A range over an iterator that keeps its state in a box of its own: one law. -/
import Derived.RangeFuncWrites
import Derived.RangeFuncCalls
import Derived.Below
namespace Go.Proofs.YtkgbldkjpohinaaGreatDoor
open Go.RowKit
section
variable {F : Fence} {n : Nat} {P : Program}
/-- J stands while blocks are laid and the box c is turned. -/
def AbB (c : Nat) (J : List ByteArray → World → Prop) : Prop := ∀ xs W W', J xs W → W.grownBy W' (some c) → J xs W'
/-- An iterator of texts, at most as many as the box's text is long, none longer than it. -/
def SeqBox (F : Fence) (n : Nat) (P : Program) (g : Nat) (lb : Array Value) (c : Nat) (s : ByteArray) : Prop :=
  ∀ (l : Nat) (J Jx : List ByteArray → World → Prop) (W : World), W.heap[c]? = some (.cells #[.string s] 9 (0, 0)) → AbB c J → AbB c Jx →
    (∀ pre x W1, J pre W1 → pre.length < s.size → x.size ≤ s.size → YieldAt F (n - 1) P l #[.string x] W1 fun e W' =>
      (e = .returned (.bool true) ∧ J (pre ++ [x]) W' ∧ W'.heap[c]? = W1.heap[c]?) ∨ (e = .returned (.bool false) ∧ Jx (pre ++ [x]) W')) →
    J [] W → CallsIn F n P g (#[.func (.yield l) #[] #[]] ++ lb) W fun e W' => (∃ v, e = .returned v) ∧ ((∃ xs, xs.length ≤ s.size ∧ J xs W') ∨ ∃ pre, Jx pre W')
/-- What a round's body owes. -/
def boxPost (B c : Nat) (I : List ByteArray → World → Prop) (Ix : World → Prop) (xs : List ByteArray) (W : World) : Exit → Act → World → Prop
  | .normal, _, W' => (∀ k, B ≤ k → k < B + 2 → W'.heap[k]? = W.heap[k]?) ∧ W'.heap[c]? = W.heap[c]? ∧ I xs W'
  | .ret, _, W' => (∀ k, B ≤ k → k < B + 2 → W'.heap[k]? = W.heap[k]?) ∧ Ix W'
  | _, _, _ => False
theorem rangeBox {g : Operand} {p : Tmp} {assign body : Code} {Q : Exit → Act → World → Prop} {a : Act} {w : World} (hro : F.round = none) (h1 : 1 ≤ n) {gf : Nat} {lb : Array Value}
    (hg : a.eval g = .func (.func gf) #[] lb) (hFg : F.fn gf) (eg : ∀ args w, (callFunc gf args).run P w = .ok (.enter gf args) w) {c : Nat} {s : ByteArray} (hseq : SeqBox F (n - 1) P gf lb c s) (hc : w.heap[c]? = some (.cells #[.string s] 9 (0, 0)))
    (I : List ByteArray → World → Prop) (Ix : World → Prop) (hI : ∀ xs A B r, I xs A → A.grownBy B (some r) → (r = c ∨ w.heap.size ≤ r ∧ r < w.heap.size + 2) → I xs B) (hIx : ∀ A B r, Ix A → A.grownBy B (some r) → (r = c ∨ w.heap.size ≤ r ∧ r < w.heap.size + 2) → Ix B)
    (h0 : I [] w) (a₁ : ByteArray → Act)
    (hassign : ∀ (l : Nat) (x : ByteArray) (W : World) (K : Act → World → Prop), K (a₁ x) W → assign.wpIn (F.inRound l) (n - 1 - 1) P (Exit.then K (fun _ _ _ => False)) { tmps := ((#[p] : Array Tmp).zip #[Value.string x]).foldl (fun t (p, v) => t.setIfInBounds p v) a.tmps, defers := [] } W)
    (hbody : ∀ (l : Nat) (pre : List ByteArray) (x : ByteArray) (W : World), w.heap.size + 2 ≤ W.heap.size → I pre W → pre.length < s.size → x.size ≤ s.size → body.wpIn (F.inRound l) (n - 1 - 1) P (boxPost w.heap.size c I Ix (pre ++ [x]) W) (a₁ x) W)
    (hdone : ∀ (xs : List ByteArray) (W : World), xs.length ≤ s.size → I xs W → W.heap[w.heap.size]? = some (.deferred (some [])) → Q .normal { a with defers := { target := .collected w.heap.size, args := #[] } :: a.defers } W)
    (hstop : ∀ (W : World), Ix W → W.heap[w.heap.size]? = some (.deferred (some [])) → Code.ret.wpIn F n P Q { a with defers := { target := .collected w.heap.size, args := #[] } :: a.defers } W) :
    (Code.rangeFunc g #[p] assign body).wpIn F n P Q a w := by
  have hcl : c < w.heap.size := (Array.getElem?_eq_some_iff.1 hc).1
  refine wpIn_rangeFunc ?_
  intro fn hfn
  rw [hro]
  obtain ⟨rec, hrec⟩ : ∃ rec : LoopState → Option Code → Loop, rec = fun st pe => { state := st, pending := pe, fn, tmps := a.tmps, params := #[p], assign, body, defers := w.heap.size } := ⟨_, rfl⟩
  obtain ⟨W1, hW1⟩ : ∃ W1, W1 = (w.alloc (.deferred (some []))).alloc (.loop (rec .ready none)) := ⟨_, rfl⟩
  have hs1 : W1.heap.size = w.heap.size + 2 := by rw [hW1]; simp
  have hL1 : W1.heap[w.heap.size + 1]? = some (.loop (rec .ready none)) := by
    have := World.alloc_heap_new (w.alloc (.deferred (some []))) (.loop (rec .ready none))
    rw [World.size_alloc] at this
    rw [hW1]; exact this
  have hK1 : W1.heap[w.heap.size]? = some (.deferred (some [])) := by
    rw [hW1]; exact (Below.heap_alloc _ _ _ (by simp)).trans (World.alloc_heap_new w _)
  have hc1 : W1.heap[c]? = some (.cells #[.string s] 9 (0, 0)) := by
    rw [hW1, Below.heap_alloc _ _ _ (by simp; omega), Below.heap_alloc _ _ _ hcl]; exact hc
  have hI1 : I [] W1 := by
    rw [hW1]
    exact hI _ _ _ c (hI _ _ _ c h0 (World.grownBy_alloc w _ _) (.inl rfl)) (World.grownBy_alloc _ _ _) (.inl rfl)
  refine ⟨w.heap.size + 1, [{ target := .collected w.heap.size, args := #[] }], W1, { target := .fn (.func gf) lb, args := #[.func (.yield (w.heap.size + 1)) #[] #[]] }, W1, gf, #[.func (.yield (w.heap.size + 1)) #[] #[]] ++ lb, W1, ?_, ?_, ?_, ?_, fun _ => h1, ?_⟩
  · rw [hW1, hrec]; exact run_enterLoop_outer _ _ _ _ _
  · simp only [resolve, hg]
    simp [go_sem]
  · intro f' hf'; simp [Target.leads] at hf'; subst hf'; exact hFg
  · simp [invoke, go_sem, eg]
  · refine (hseq (w.heap.size + 1)
      (fun pre W => I pre W ∧ W.heap[w.heap.size + 1]? = some (.loop (rec .ready none)) ∧ W.heap[w.heap.size]? = some (.deferred (some [])))
      (fun _ W => Ix W ∧ W.heap[w.heap.size + 1]? = some (.loop (rec .done (some .ret))) ∧ W.heap[w.heap.size]? = some (.deferred (some [])))
      W1 hc1
      (fun xs A B hs gr => ⟨hI _ _ _ c hs.1 gr (.inl rfl), (gr.block _ (Array.getElem?_eq_some_iff.1 hs.2.1).1 (by simp; omega)).trans hs.2.1, (gr.block _ (Array.getElem?_eq_some_iff.1 hs.2.2).1 (by simp; omega)).trans hs.2.2⟩)
      (fun xs A B hs gr => And.intro (hIx _ _ c hs.1 gr (.inl rfl)) (And.intro ((gr.block _ (Array.getElem?_eq_some_iff.1 hs.2.1).1 (by simp; omega)).trans hs.2.1) ((gr.block _ (Array.getElem?_eq_some_iff.1 hs.2.2).1 (by simp; omega)).trans hs.2.2)))
      ?_ (And.intro hI1 (And.intro hL1 hK1))).mono ?_
    · rintro pre x W ⟨hi, hl, hk⟩ hlen hxs
      have hlt : w.heap.size + 1 < W.heap.size := (Array.getElem?_eq_some_iff.1 hl).1
      have hy := run_yield (P := P) (args := #[.string x]) hl (by rw [hrec]; rfl)
      rw [hrec] at hy
      refine ⟨fn, _, assign, body, hy, roundIn_of_wpIn hfn (hassign _ x W _ ⟨_, run_beginRound hl (by rw [hrec]), ?_⟩)⟩
      obtain ⟨V, hV⟩ : ∃ V, V = W.putObj (w.heap.size + 1) (.loop { rec .ready none with state := .busy }) := ⟨_, rfl⟩
      rw [← hV]
      have hl2 : V.heap[w.heap.size + 1]? = some (.loop { rec .ready none with state := .busy }) := by rw [hV]; exact World.putObj_heap_same hlt
      have hk2 : V.heap[w.heap.size]? = some (.deferred (some [])) := by rw [hV]; exact (World.putObj_heap_other (by omega)).trans hk
      have hc2 : V.heap[c]? = W.heap[c]? := by rw [hV]; exact World.putObj_heap_other (by omega)
      have hi2 : I pre V := by rw [hV]; exact hI _ _ _ _ hi (grownBy_putObj' W _ _) (.inr ⟨by omega, by omega⟩)
      refine wpIn_mono (hbody _ pre x V (by have := (Array.getElem?_eq_some_iff.1 hl2).1; omega) hi2 hlen hxs) ?_
      rintro e a3 W3 hp
      cases e with
      | normal =>
        obtain ⟨hkk, hcc, hi3⟩ := hp
        have hl3 := (hkk (w.heap.size + 1) (by omega) (by omega)).trans hl2
        have hk3 := (hkk w.heap.size (by omega) (by omega)).trans hk2
        have hr := run_endRound (P := P) none hl3
        refine ⟨_, _, hr, .inl ⟨rfl, ⟨hI _ _ _ _ hi3 (grownBy_putObj' W3 _ _) (.inr ⟨by omega, by omega⟩), ?_, (World.putObj_heap_other (by omega)).trans hk3⟩, (World.putObj_heap_other (by omega)).trans (hcc.trans hc2)⟩⟩
        rw [World.putObj_heap_same (Array.getElem?_eq_some_iff.1 hl3).1, hrec]
        rfl
      | ret =>
        obtain ⟨hkk, hi3⟩ := hp
        have hl3 := (hkk (w.heap.size + 1) (by omega) (by omega)).trans hl2
        have hk3 := (hkk w.heap.size (by omega) (by omega)).trans hk2
        have hr := run_endRound (P := P) (some .ret) hl3
        refine ⟨_, _, hr, .inr ⟨rfl, hIx _ _ _ hi3 (grownBy_putObj' W3 _ _) (.inr ⟨by omega, by omega⟩), ?_, (World.putObj_heap_other (by omega)).trans hk3⟩⟩
        rw [World.putObj_heap_same (Array.getElem?_eq_some_iff.1 hl3).1, hrec]
        rfl
      | exit id => exact hp.elim
      | goto t => exact hp.elim
      | panic ch => exact hp.elim
      | outgrown => exact hp.elim
    · rintro e W2 ⟨⟨v, rfl⟩, (⟨xs, hxl, hi, hl, hk⟩ | ⟨pre, hi, hl, hk⟩)⟩
      · have hr := run_endLoop (P := P) hl (by rw [hrec]; simp)
        rw [hrec] at hr
        exact ⟨none, _, hr, hdone xs _ hxl (hI _ _ _ _ hi (grownBy_putObj' W2 _ _) (.inr ⟨by omega, by omega⟩)) ((World.putObj_heap_other (by omega)).trans hk)⟩
      · have hr := run_endLoop (P := P) hl (by rw [hrec]; simp)
        rw [hrec] at hr
        exact ⟨some .ret, _, hr, hstop _ (hIx _ _ _ hi (grownBy_putObj' W2 _ _) (.inr ⟨by omega, by omega⟩)) ((World.putObj_heap_other (by omega)).trans hk)⟩
end
end Go.Proofs.YtkgbldkjpohinaaGreatDoor
