/- A process that is written cell by cell. Children that are given to process 1: what a loop over the table does to it, step by step. -/
import Derived.Test.YtmphnoabkmoafaaGreatDoorM12
import Derived.Test.YtmphnoabkmoafaaGreatDoorM13
namespace Go.Proofs.YtmphnoabkmoafaaGreatDoor
open Go.RowKit Go.Maps
set_option linter.unusedVariables false
variable {uu0 : Unit} [Base uu0]
/-- w' is w but for the block g, which bears the cells cs. -/
structure At66 (w w' : World) (g : Nat) (cs : Array Value) : Prop where
  row : w'.heap[g]? = some (.cells cs 68 (0, 0))
  was : ∃ cs0, w.heap[g]? = some (.cells cs0 68 (0, 0))
  far : ∀ k, k ≠ g → w'.heap[k]? = w.heap[k]?
  size : w'.heap.size = w.heap.size
  below : Below g w w'
section
variable {w w' : World} {g : Nat} {cs : Array Value}
theorem At66.start (h : w.heap[g]? = some (.cells cs 68 (0, 0))) : At66 w w g cs := ⟨h, ⟨cs, h⟩, fun _ _ => rfl, rfl, Below.refl _ _⟩
theorem At66.set (h : At66 w w' g cs) (i : Nat) (u : Value) : At66 w (w'.setCell ⟨g, i, none⟩ u) g (cs.setIfInBounds i u) where
  row := heap_setCell_same w' g i _ 68 u h.row
  was := h.was
  far := fun k hk => (heap_setCell_other w' ⟨g, i, none⟩ k u (by simpa using hk)).trans (h.far k hk)
  size := by rw [World.size_setCell]; exact h.size
  below := h.below.setCell (by simp) u
theorem At66.keep3 (h : At66 w w' g cs) (hlo : Base.lo ≤ g) : Keep3 w w' := by
  obtain ⟨cs0, h0⟩ := h.was
  exact Keep3.of_far (by decide) h0 h.far hlo
theorem At66.cell (h : At66 w w' g cs) (i : Nat) : w'.cell? ⟨g, i, none⟩ = cs[i]? := cell_of_row w' g i _ 68 (0, 0) h.row
theorem At66.frozen (h : At66 w w' g cs) (i : Nat) : w'.frozen? ⟨g, i, none⟩ = false := frozen_of_row w' g i _ 68 h.row
theorem At66.cellFar (h : At66 w w' g cs) {a : Addr} (ha : a.block ≠ g) : w'.cell? a = w.cell? a := World.cell?_of_block (w := w) (w' := w') (h.far _ ha)
variable {B T M : Nat} {bl : ByteArray → Nat} {L : List PR}
theorem TabAt.at66 (h : TabAt w B T M bl L) {p p' : PR} (hp : p ∈ L) (hid : p'.id = p.id) {a b c d : Value} (k : At66 w w' (bl p.id) (p'.cells a b c d)) (hS : IntsAt w a p'.S) (hI : IntsAt w b p'.I) (hP : IntsAt w c p'.Plus) (hM : IntsAt w d p'.Minus) :
    TabAt w' B T M bl (updP p' L) ∧ Bel B w w' :=
  have hlo : Base.lo ≤ bl p.id := Nat.le_trans h.lowB (h.lowP p hp)
  have kk := k.keep3 hlo
  ⟨h.turn hp hid k.far ⟨a, b, c, d, k.row, hS.keep kk, hI.keep kk, hP.keep kk, hM.keep kk⟩, k.below.mono (h.lowP p hp), by obtain ⟨cs0, h0⟩ := k.was; exact Still.of_far h0 k.far, kk.low⟩
theorem TabAt.neT (h : TabAt w B T M bl L) {p : PR} (hp : p ∈ L) : T ≠ bl p.id := by
  obtain ⟨_, _, _, _, h0⟩ := h.procs p hp
  rintro e
  have := h.tab
  rw [e, h0.row] at this
  cases this
theorem TabAt.neM (h : TabAt w B T M bl L) {p : PR} (hp : p ∈ L) : M ≠ bl p.id := by
  obtain ⟨_, _, _, _, h0⟩ := h.procs p hp
  rintro e
  obtain ⟨es, clock, hb, _⟩ := h.map
  rw [e, h0.row] at hb
  cases hb
theorem TabAt.ltM (h : TabAt w B T M bl L) : M < w.heap.size := by
  obtain ⟨es, clock, hb, _⟩ := h.map
  exact (Array.getElem?_eq_some_iff.1 hb).1
end
end Go.Proofs.YtmphnoabkmoafaaGreatDoor
namespace Go.Proofs.YtmphnoabkmoafaaGreatDoor
open Go.RowKit Go.Maps
set_option linter.unusedVariables false
variable {uu0 : Unit} [Base uu0]
def oneB : ByteArray := ⟨#[49]⟩
def toOne (q : PR) : PR := { q with par := oneB }
/-- Those that the test names are moved, of those that the loop has met. -/
def mvL (f : PR → Bool) (left : Lit → Bool) (L : List PR) : List PR := L.map fun q => if f q && !left (keyL q.id) then toOne q else q
def moveP (f : PR → Bool) (L : List PR) : List PR := L.map fun q => if f q then toOne q else q
section
variable {w w' : World} {B T M : Nat} {bl : ByteArray → Nat} {L : List PR} {f : PR → Bool} {left : Lit → Bool}
theorem TabAt.rising (h : TabAt w B T M bl L) : L.Pairwise fun p q => (keyL p.id).before (keyL q.id) = true := by
  obtain ⟨es, he, hr, _⟩ := h.map.canon law9
  have : es = encP bl L := by unfold encT at he; cases he; rfl
  subst this
  unfold encP at hr
  rw [List.pairwise_map] at hr
  exact hr
theorem uniq_of (h : L.Pairwise fun p q => (keyL p.id).before (keyL q.id) = true) : ∀ p ∈ L, ∀ q ∈ L, p.id = q.id → p = q := by
  induction L with
  | nil => intro p hp; cases hp
  | cons a r ih =>
    obtain ⟨h1, h2⟩ := List.pairwise_cons.1 h
    intro p hp q hq e
    rcases List.mem_cons.1 hp with rfl | hp <;> rcases List.mem_cons.1 hq with rfl | hq
    · rfl
    · have := h1 q hq; rw [e, WideShapes.before_irrefl] at this; cases this
    · have := h1 p (by assumption); rw [e, WideShapes.before_irrefl] at this; cases this
    · exact ih h2 p hp q hq e
theorem TabAt.uniq (h : TabAt w B T M bl L) : ∀ p ∈ L, ∀ q ∈ L, p.id = q.id → p = q := uniq_of h.rising
theorem get_of_mem (h : ∀ p ∈ L, ∀ q ∈ L, p.id = q.id → p = q) {p : PR} (hp : p ∈ L) : get L p.id = some p := by
  cases hg : get L p.id with
  | none => have := List.find?_eq_none.1 hg p hp; simp at this
  | some q =>
    obtain ⟨h1, h2⟩ := get_mem hg
    rw [h q h1 p hp h2]
theorem mvL_start (f : PR → Bool) (bl : ByteArray → Nat) (L : List PR) : mvL f (Maps.has (encT bl L)) L = L := by
  unfold mvL
  conv => rhs; rw [← List.map_id L]
  apply List.map_congr_left
  intro q hq
  have : Maps.has (encT bl L) (keyL q.id) = true := by
    show (encP bl L).any (fun p => p.1.sameKey (keyL q.id)) = true
    rw [List.any_eq_true]
    exact ⟨(keyL q.id, .lit (.int .i64 (bl q.id))), List.mem_map.2 ⟨q, hq, rfl⟩, by simp [keyL_same]⟩
  simp [this]
theorem mvL_end (f : PR → Bool) (L : List PR) (h : ∀ kl, left kl = false) : mvL f left L = moveP f L := by
  unfold mvL moveP
  apply List.map_congr_left
  intro q _
  simp [h]
theorem mvL_mem {q : PR} (hq : q ∈ L) (hl : left (keyL q.id) = true) : q ∈ mvL f left L := List.mem_map.2 ⟨q, hq, by simp [hl]⟩
theorem mvL_skip (hu : ∀ p ∈ L, ∀ q ∈ L, p.id = q.id → p = q) {q : PR} (hq : q ∈ L) (hf : f q = false) : mvL f (fun z => left z && !z.sameKey (keyL q.id)) L = mvL f left L := by
  unfold mvL
  apply List.map_congr_left
  intro r hr
  simp only [keyL_same]
  by_cases e : r.id = q.id
  · rw [hu r hr q hq e]; simp [hf]
  · simp [e]
theorem mvL_step (hu : ∀ p ∈ L, ∀ q ∈ L, p.id = q.id → p = q) {q : PR} (hq : q ∈ L) (hf : f q = true) : mvL f (fun z => left z && !z.sameKey (keyL q.id)) L = updP (toOne q) (mvL f left L) := by
  unfold mvL updP
  rw [List.map_map]
  apply List.map_congr_left
  intro r hr
  simp only [keyL_same]
  simp only [Function.comp]
  have eid : (if f r && !left (keyL r.id) then toOne r else r).id = r.id := by split <;> rfl
  rw [eid]
  by_cases e : r.id = q.id
  · rw [hu r hr q hq e, if_pos (show q.id = (toOne q).id from rfl)]; simp [hf]
  · rw [if_neg (show ¬ r.id = (toOne q).id from e)]; simp [e]
theorem enc_mvL (f : PR → Bool) (left : Lit → Bool) (bl : ByteArray → Nat) (L : List PR) : encT bl (mvL f left L) = encT bl L := by
  unfold encT encP mvL
  rw [List.map_map]
  congr 1
  apply List.map_congr_left
  intro r _
  simp only [Function.comp]
  split <;> rfl
theorem grown_set (w : World) (a : Addr) (u : Value) : w.grownBy (w.setCell a u) (some a.block) :=
  have h := (Below.refl 0 w).setCell (p := a) (Nat.zero_le _) u
  ⟨h.os, h.tape, h.output, h.size, fun k _ hne => heap_setCell_other w a k u (fun e => hne (by rw [e]))⟩
/-- The iterator alone is turned. -/
theorem TabAt.iter (h : TabAt w B T M bl L) {r n cnt : Nat} {D : DataW Unit} (hr : w.ranges Tryz.prog 9 readP M r n D left cnt) (hg : w.grownBy w' (some r)) : TabAt w' B T M bl L := by
  obtain ⟨es, clock, since, seen, c0, _, _, _, _, hit, _⟩ := hr
  have ne : ∀ g o, w.heap[g]? = some o → (∀ a b c d, o ≠ Obj.mapIter a b c d) → w'.heap[g]? = some o := fun g o hgo ho =>
    (hg.block g (Array.getElem?_eq_some_iff.1 hgo).1 (by rintro e; cases e; rw [hgo] at hit; cases hit; exact ho _ _ _ _ rfl)).trans hgo
  have k3 : Keep3 w w' := ⟨fun g cur e => ne g _ e (by simp), fun g cs t z _ e => ne g _ e (by simp)⟩
  refine ⟨ne T _ h.tab (by simp), ?_, fun p hp => ?_, h.inj, h.lowT, h.lowM, h.lowP, h.lowB⟩
  · obtain ⟨es, clock, hb, rest⟩ := h.map
    exact ⟨es, clock, ne M _ hb (by simp), rest⟩
  · obtain ⟨a, b, c, d, hh⟩ := h.procs p hp
    exact ⟨a, b, c, d, hh.keep k3 ((ne _ _ hh.row (by simp)).trans hh.row.symm)⟩
theorem iter_no_cells {r n cnt : Nat} {D : DataW Unit} (hr : w.ranges Tryz.prog 9 readP M r n D left cnt) : ∀ cs t f, w.heap[r]? ≠ some (.cells cs t f) := by
  obtain ⟨es, clock, since, seen, c0, _, _, _, _, hit, _⟩ := hr
  intro cs t f e
  rw [hit] at e
  cases e
/-- What a step of the loop finds. -/
theorem enc_found {kl : Lit} {x : List UInt8} (hkl : kl = .string x) {y : DataW Unit × List MemPlace} {c : Option Nat} (hv : readP (.pointer (c.map fun b => ⟨b, 0, none⟩)) = some y) (hat : ∀ zd, (encT bl L).atKey kl zd = y.1) : ∃ q ∈ L, kl = keyL q.id ∧ c = some (bl q.id) := by
  subst hkl
  have ek : Lit.string x = keyL ⟨x.toArray⟩ := by simp [keyL]
  rw [ek] at hat ⊢
  cases hg : get L ⟨x.toArray⟩ with
  | none =>
    have h1 := hat .nil
    have h2 := hat (.lit (.bool true))
    rw [atKey_enc, hg] at h1 h2
    simp only at h1 h2
    rw [← h1] at h2
    cases h2
  | some q =>
    obtain ⟨h1, h2⟩ := get_mem hg
    refine ⟨q, h1, by rw [h2], ?_⟩
    have h3 := hat .nil
    rw [atKey_enc, hg] at h3
    simp only at h3
    obtain ⟨y1, y2⟩ := y
    simp only at h3
    subst h3
    have h4 := readP_lit hv
    cases c with
    | none => cases h4
    | some b => simp [ptr] at h4; rw [h4]
end
end Go.Proofs.YtmphnoabkmoafaaGreatDoor
