/- Children that are given to process 1: what a loop over the table does to it, step by step. -/
import Derived.Test.YtmphnoabkmoafaaDoorAt66
namespace Go.Proofs.YtmphnoabkmoafaaDoor
open Go.RowKit Go.Maps
set_option linter.unusedVariables false
def oneB : ByteArray := ⟨#[49]⟩
def toOne (q : PR) : PR := { q with par := oneB }
/-- Those that the test names are moved, of those that the loop has met. -/
def mvL (f : PR → Bool) (left : Lit → Bool) (L : List PR) : List PR := L.map fun q => if f q && !left (keyL q.id) then toOne q else q
def moveP (f : PR → Bool) (L : List PR) : List PR := L.map fun q => if f q then toOne q else q
section
variable {w w' : World} {B T M : Nat} {bl : ByteArray → Nat} {L : List PR} {f : PR → Bool} {left : Lit → Bool}
theorem TabAt.rising (h : TabAt w B T M bl L) : L.Pairwise fun p q => (keyL p.id).before (keyL q.id) = true := by
  obtain ⟨es, he, hr, _⟩ := h.map.canon law9
  have : es = encP bl L := by unfold encT at he; cases he; rfl
  subst this
  unfold encP at hr
  rw [List.pairwise_map] at hr
  exact hr
theorem uniq_of (h : L.Pairwise fun p q => (keyL p.id).before (keyL q.id) = true) : ∀ p ∈ L, ∀ q ∈ L, p.id = q.id → p = q := by
  induction L with
  | nil => intro p hp; cases hp
  | cons a r ih =>
    obtain ⟨h1, h2⟩ := List.pairwise_cons.1 h
    intro p hp q hq e
    rcases List.mem_cons.1 hp with rfl | hp <;> rcases List.mem_cons.1 hq with rfl | hq
    · rfl
    · have := h1 q hq; rw [e, WideShapes.before_irrefl] at this; cases this
    · have := h1 p (by assumption); rw [e, WideShapes.before_irrefl] at this; cases this
    · exact ih h2 p hp q hq e
theorem TabAt.uniq (h : TabAt w B T M bl L) : ∀ p ∈ L, ∀ q ∈ L, p.id = q.id → p = q := uniq_of h.rising
theorem get_of_mem (h : ∀ p ∈ L, ∀ q ∈ L, p.id = q.id → p = q) {p : PR} (hp : p ∈ L) : get L p.id = some p := by
  cases hg : get L p.id with
  | none => have := List.find?_eq_none.1 hg p hp; simp at this
  | some q =>
    obtain ⟨h1, h2⟩ := get_mem hg
    rw [h q h1 p hp h2]
theorem mvL_start (f : PR → Bool) (bl : ByteArray → Nat) (L : List PR) : mvL f (Maps.has (encT bl L)) L = L := by
  unfold mvL
  conv => rhs; rw [← List.map_id L]
  apply List.map_congr_left
  intro q hq
  have : Maps.has (encT bl L) (keyL q.id) = true := by
    show (encP bl L).any (fun p => p.1.sameKey (keyL q.id)) = true
    rw [List.any_eq_true]
    exact ⟨(keyL q.id, .lit (.int .i64 (bl q.id))), List.mem_map.2 ⟨q, hq, rfl⟩, by simp [keyL_same]⟩
  simp [this]
theorem mvL_end (f : PR → Bool) (L : List PR) (h : ∀ kl, left kl = false) : mvL f left L = moveP f L := by
  unfold mvL moveP
  apply List.map_congr_left
  intro q _
  simp [h]
theorem mvL_mem {q : PR} (hq : q ∈ L) (hl : left (keyL q.id) = true) : q ∈ mvL f left L := List.mem_map.2 ⟨q, hq, by simp [hl]⟩
theorem mvL_skip (hu : ∀ p ∈ L, ∀ q ∈ L, p.id = q.id → p = q) {q : PR} (hq : q ∈ L) (hf : f q = false) : mvL f (fun z => left z && !z.sameKey (keyL q.id)) L = mvL f left L := by
  unfold mvL
  apply List.map_congr_left
  intro r hr
  simp only [keyL_same]
  by_cases e : r.id = q.id
  · rw [hu r hr q hq e]; simp [hf]
  · simp [e]
theorem mvL_step (hu : ∀ p ∈ L, ∀ q ∈ L, p.id = q.id → p = q) {q : PR} (hq : q ∈ L) (hf : f q = true) : mvL f (fun z => left z && !z.sameKey (keyL q.id)) L = updP (toOne q) (mvL f left L) := by
  unfold mvL updP
  rw [List.map_map]
  apply List.map_congr_left
  intro r hr
  simp only [keyL_same]
  simp only [Function.comp]
  have eid : (if f r && !left (keyL r.id) then toOne r else r).id = r.id := by split <;> rfl
  rw [eid]
  by_cases e : r.id = q.id
  · rw [hu r hr q hq e, if_pos (show q.id = (toOne q).id from rfl)]; simp [hf]
  · rw [if_neg (show ¬ r.id = (toOne q).id from e)]; simp [e]
theorem enc_mvL (f : PR → Bool) (left : Lit → Bool) (bl : ByteArray → Nat) (L : List PR) : encT bl (mvL f left L) = encT bl L := by
  unfold encT encP mvL
  rw [List.map_map]
  congr 1
  apply List.map_congr_left
  intro r _
  simp only [Function.comp]
  split <;> rfl
theorem grown_set (w : World) (a : Addr) (u : Value) : w.grownBy (w.setCell a u) (some a.block) :=
  have h := (Below.refl 0 w).setCell (p := a) (Nat.zero_le _) u
  ⟨h.os, h.tape, h.output, h.size, fun k _ hne => heap_setCell_other w a k u (fun e => hne (by rw [e]))⟩
/-- The iterator alone is turned. -/
theorem TabAt.iter (h : TabAt w B T M bl L) {r n cnt : Nat} {D : DataW Unit} (hr : w.ranges Tryd.prog 9 readP M r n D left cnt) (hg : w.grownBy w' (some r)) : TabAt w' B T M bl L := by
  obtain ⟨es, clock, since, seen, c0, _, _, _, _, hit, _⟩ := hr
  have ne : ∀ g o, w.heap[g]? = some o → (∀ a b c d, o ≠ Obj.mapIter a b c d) → w'.heap[g]? = some o := fun g o hgo ho =>
    (hg.block g (Array.getElem?_eq_some_iff.1 hgo).1 (by rintro e; cases e; rw [hgo] at hit; cases hit; exact ho _ _ _ _ rfl)).trans hgo
  have k3 : Keep3 w w' := fun g cur e => ne g _ e (by simp)
  refine ⟨ne T _ h.tab (by simp), ?_, fun p hp => ?_, h.inj, h.lowT, h.lowM, h.lowP⟩
  · obtain ⟨es, clock, hb, rest⟩ := h.map
    exact ⟨es, clock, ne M _ hb (by simp), rest⟩
  · obtain ⟨a, b, c, d, hh⟩ := h.procs p hp
    exact ⟨a, b, c, d, hh.keep k3 ((ne _ _ hh.row (by simp)).trans hh.row.symm)⟩
theorem iter_no_cells {r n cnt : Nat} {D : DataW Unit} (hr : w.ranges Tryd.prog 9 readP M r n D left cnt) : ∀ cs t f, w.heap[r]? ≠ some (.cells cs t f) := by
  obtain ⟨es, clock, since, seen, c0, _, _, _, _, hit, _⟩ := hr
  intro cs t f e
  rw [hit] at e
  cases e
/-- What a step of the loop finds. -/
theorem enc_found {kl : Lit} {x : List UInt8} (hkl : kl = .string x) {y : DataW Unit × List MemPlace} {c : Option Nat} (hv : readP (.pointer (c.map fun b => ⟨b, 0, none⟩)) = some y) (hat : ∀ zd, (encT bl L).atKey kl zd = y.1) : ∃ q ∈ L, kl = keyL q.id ∧ c = some (bl q.id) := by
  subst hkl
  have ek : Lit.string x = keyL ⟨x.toArray⟩ := by simp [keyL]
  rw [ek] at hat ⊢
  cases hg : get L ⟨x.toArray⟩ with
  | none =>
    have h1 := hat .nil
    have h2 := hat (.lit (.bool true))
    rw [atKey_enc, hg] at h1 h2
    simp only at h1 h2
    rw [← h1] at h2
    cases h2
  | some q =>
    obtain ⟨h1, h2⟩ := get_mem hg
    refine ⟨q, h1, by rw [h2], ?_⟩
    have h3 := hat .nil
    rw [atKey_enc, hg] at h3
    simp only at h3
    obtain ⟨y1, y2⟩ := y
    simp only at h3
    subst h3
    have h4 := readP_lit hv
    cases c with
    | none => cases h4
    | some b => simp [ptr] at h4; rw [h4]
end
end Go.Proofs.YtmphnoabkmoafaaDoor
