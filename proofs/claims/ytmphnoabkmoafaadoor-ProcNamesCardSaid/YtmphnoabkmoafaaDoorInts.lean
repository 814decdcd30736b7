/- Slices of whole numbers as lists: what is read, what is appended. -/
import Derived.Laws.AppendOwnNone
import Derived.Laws.IdiomStrings
import Derived.Laws.BytesArg
import Derived.WalkKit
import Derived.WalkSpells
import Derived.WalkLawsBesides
import Derived.Deep.WholeRow
import Derived.Deep.MidRow
import Derived.Lib.Walk
import Derived.Lib.Hide
import Derived.KernelRfl
import Derived.Test.YtmphnoabkmoafaaDoorChecked
namespace Go.Proofs.YtmphnoabkmoafaaDoor
open Go.RowKit
def lits (l : List Int) : List Value := l.map (Value.int .i64)
/-- A block of whole numbers. -/
structure Blk3 (w : World) (b : Nat) : Prop where
  lt : b < w.heap.size
  ty : ∃ cur, w.heap[b]? = some (.cells cur 3 (0, 0))
theorem Blk3.below {B : Nat} {w w' : World} {b : Nat} (h : Blk3 w b) (hb : Below B w w') (hB : w.heap.size ≤ B) : Blk3 w' b := by
  have h1 := h.lt
  obtain ⟨cur, h2⟩ := h.ty
  exact ⟨by have := hb.size; omega, cur, by rw [hb.block b (by omega)]; exact h2⟩
/-- v is a slice that reads as the bytes l in the world w. -/
def IntsAt (w : World) (v : Value) (l : List Int) : Prop :=
  (l = [] ∧ ∃ ao c, v = .slice ao 0 c ∧ (ao = none → c = 0)) ∨
  ∃ b off c, v = .slice (some ⟨b, off, none⟩) l.length c ∧ 0 < l.length ∧ l.length ≤ c ∧ Blk3 w b ∧ ∀ j, j < l.length → w.cell? ⟨b, off + j, none⟩ = some (.int .i64 (l.getD j 0))

section
variable {w w' : World} {v : Value} {l : List Int}
theorem IntsAt.nil (w : World) : IntsAt w (.slice none 0 0) [] := .inl ⟨rfl, none, 0, rfl, fun _ => rfl⟩
theorem IntsAt.below {B : Nat} (h : IntsAt w v l) (hb : Below B w w') (hB : w.heap.size ≤ B) : IntsAt w' v l := by
  rcases h with h | ⟨b, off, c, hv, h0, hc, hlt, hcell⟩
  · exact .inl h
  · exact .inr ⟨b, off, c, hv, h0, hc, hlt.below hb hB, fun j hj => (hb.cell (p := ⟨b, off + j, none⟩) (by have := hlt.lt; simp only; omega)).trans (hcell j hj)⟩
theorem IntsAt.drewN (h : IntsAt w v l) (n : Nat) : IntsAt (w.drewN n) v l := by
  rcases h with h | ⟨b, off, c, hv, h0, hc, hlt, hcell⟩
  · exact .inl h
  · exact .inr ⟨b, off, c, hv, h0, hc, ⟨hlt.lt, hlt.ty⟩, hcell⟩
theorem IntsAt.alloc (h : IntsAt w v l) (o : Obj) : IntsAt (w.alloc o) v l :=
  h.below ((Below.refl w.heap.size w).alloc (Nat.le_refl _) o) (Nat.le_refl _)
theorem IntsAt.shape (h : IntsAt w v l) : ∃ ao c, v = .slice ao l.length c := by
  rcases h with ⟨rfl, ao, c, rfl, _⟩ | ⟨b, off, c, rfl, _⟩
  · exact ⟨ao, c, rfl⟩
  · exact ⟨_, c, rfl⟩
/-- An owned row of bytes reads as its bytes. -/
theorem IntsAt.of_owns {base : Nat} {n : Nat} (h : w.ownsRow base 3 1 v n (lits l)) : IntsAt w v l := by
  have hn : l.length = n := by simpa [lits] using h.1
  rcases h.2 with ⟨rfl, rfl⟩ | ⟨g, cap, cur, rfl, _, hg, hnc, _, _, htake⟩
  · exact .inl ⟨List.eq_nil_of_length_eq_zero hn, none, 0, rfl, fun _ => rfl⟩
  · rcases Nat.eq_zero_or_pos l.length with h0 | h0
    · exact .inl ⟨List.eq_nil_of_length_eq_zero h0, some ⟨g, 0, none⟩, cap, by rw [← hn, h0], fun h => by cases h⟩
    · refine .inr ⟨g, 0, cap, by rw [hn], h0, by omega, ⟨(Array.getElem?_eq_some_iff.1 hg).1, _, hg⟩, fun j hj => ?_⟩
      have hu : (lits l)[j]? = some (.int .i64 (l.getD j 0)) := by simp [lits, List.getD, hj]
      have := h.cells (g := g) rfl j _ hu
      rw [Addr.add_mid] at this
      exact this
def sliceLen : Value → Nat | .slice _ n _ => n | _ => 0
theorem owns_shape {base : Nat} {e : TypeId} {sz n : Nat} {xs : List Value} (h : w.ownsRow base e sz v n xs) : ∃ ao c, v = .slice ao n c ∧ n ≤ c ∧ (ao = none → c = 0) := by
  rcases h.2 with ⟨rfl, rfl⟩ | ⟨g, cap, cur, rfl, _, _, hnc, _⟩
  · exact ⟨none, 0, rfl, Nat.le_refl _, fun _ => rfl⟩
  · exact ⟨_, cap, rfl, hnc, fun h => by cases h⟩
theorem owns_cells {base : Nat} {e : TypeId} {n : Nat} (h : w.ownsRow base e 1 v n (lits l)) (hn : 0 < n) : ∃ g cap, v = .slice (some ⟨g, 0, none⟩) n cap ∧ base ≤ g ∧ g < w.heap.size ∧ n ≤ cap ∧ cap ≤ maxLen ∧ ∀ j, j < l.length → w.cell? ⟨g, j, none⟩ = some (.int .i64 (l.getD j 0)) := by
  rcases h.2 with ⟨_, rfl⟩ | ⟨g, cap, cur, rfl, hb, hg, hnc, hcm, _, htake⟩
  · omega
  · refine ⟨g, cap, rfl, hb, (Array.getElem?_eq_some_iff.1 hg).1, hnc, hcm, fun j hj => ?_⟩
    have hu : (lits l)[j]? = some (.int .i64 (l.getD j 0)) := by simp [lits, List.getD, hj]
    have := h.cells (g := g) rfl j _ hu
    rw [Addr.add_mid, Nat.zero_add] at this
    exact this
/-- The slice of one byte, of four bytes, that a call lays for an append. -/
theorem IntsAt.new (w : World) (e : TypeId) (l : List Int) (h : 0 < l.length) (he : e = 3 := by rfl) : IntsAt (w.alloc (.cells (lits l).toArray e)) (.slice (some ⟨w.heap.size, 0, none⟩) l.length l.length) l :=
  .inr ⟨w.heap.size, 0, l.length, rfl, h, Nat.le_refl _, ⟨by simp, _, by rw [he]; exact heap_alloc_new w _⟩, fun j hj => by
    rw [cell_of_row _ _ _ _ e (0, 0) (heap_alloc_new w _)]
    simp [lits, List.getD, hj]⟩
theorem lits_oneCell (l : List Int) : ∀ u ∈ lits l, u.oneCell' = true := ints_oneCell _ _
end

section
variable {P : Program} {w : World} {ops : Array Oper} {rest : List Oper} {o : Oper} {a : Act} {Q : Exit → Act → World → Prop}
/-- 'append(out, b...)', out the call's own, b whatever slice of bytes. -/
theorem wp_append_ints {K : Act → World → Prop} (s x : Operand) (t : TypeId)
    (ho : o.op = .call { callee := .builtin .append, args := #[s, x], argTypes := #[t, t] })
    (base : Nat) (e : TypeId) (i : TypeInfo) (z : Value) (ht : P.underlying t = some (.slice e)) (hi : P.info? e = some i) (hz : i.zero = some z)
    (hsize : i.size = 1) (hby : i.bytes = 8) (hzs : z.cells.size = 1)
    (v : Value) (n : Nat) (xs l : List Int) (hs : a.eval s = v) (hown : w.ownsRow base e 1 v n (lits xs))
    (vx : Value) (hx : a.eval x = vx) (hB : IntsAt w vx l)
    (hbytes : (n + l.length) * 8 ≤ 140737488355328) (hbase : base ≤ w.heap.size)
    (h : ∀ v' w', w'.ownsRow base e 1 v' (n + l.length) (lits (xs ++ l)) → w.grownBy w' v.ownBlock → (v' = .slice none 0 0 ↔ v = .slice none 0 0 ∧ l.length = 0) → K (a.put o.dst v') w') : o.wp P a w K Q := by
  rcases hB with ⟨rfl, ao, c, rfl, hao⟩ | ⟨b, off, c, rfl, h0, hc, hlt, hcell⟩
  · cases ao with
    | none =>
      obtain rfl := hao rfl
      have hrun := run_append_owned_none (P := P) w base t o.type e i 1 ht hi v n (lits xs) hown
      unfold Oper.wp
      simp [execOp, ho, resolve, invoke, builtin, hs, hx, hrun, Result.andThen]
      exact h v w (by simpa using hown) (World.grownBy.refl _ _) (by simp)
    | some ad =>
      refine wp_append_own w s x t ho base e i z 1 8 ht hi hz hsize hby hzs (by omega) v n (lits xs) hs hown ad 0 c [] hx rfl (fun j u hu => by simp at hu) (fun u hu => by cases hu) (by simp only [maxLen]; simp at hbytes; omega) (by simp at hbytes; omega) hbase ?_
      intro v' w' h1 h2 h3
      exact h v' w' (by simpa [lits] using h1) h2 h3
  · refine wp_append_own w s x t ho base e i z 1 8 ht hi hz hsize hby hzs (by omega) v n (lits xs) hs hown ⟨b, off, none⟩ l.length c (lits l) hx (by simp [lits]) (fun j u hu => ?_) (lits_oneCell l) (by simp only [maxLen]; omega) (by omega) hbase ?_
    · have hj : j < l.length := by
        have := (List.getElem?_eq_some_iff.1 hu).1
        simpa [lits] using this
      rw [Addr.add_mid, hcell j hj]
      simp [lits, List.getD, hj] at hu ⊢
      exact hu
    · intro v' w' h1 h2 h3
      exact h v' w' (by simpa [lits] using h1) h2 h3
theorem wpList_append_ints (hgd : o.guard = none) (s x : Operand) (t : TypeId)
    (ho : o.op = .call { callee := .builtin .append, args := #[s, x], argTypes := #[t, t] })
    (base : Nat) (e : TypeId) (i : TypeInfo) (z : Value) (ht : P.underlying t = some (.slice e)) (hi : P.info? e = some i) (hz : i.zero = some z)
    (hsize : i.size = 1) (hby : i.bytes = 8) (hzs : z.cells.size = 1)
    (v : Value) (n : Nat) (xs l : List Int) (hs : a.eval s = v) (hown : w.ownsRow base e 1 v n (lits xs))
    (vx : Value) (hx : a.eval x = vx) (hB : IntsAt w vx l)
    (hbytes : (n + l.length) * 8 ≤ 140737488355328) (hbase : base ≤ w.heap.size)
    (h : ∀ v' w', w'.ownsRow base e 1 v' (n + l.length) (lits (xs ++ l)) → w.grownBy w' v.ownBlock → (v' = .slice none 0 0 ↔ v = .slice none 0 0 ∧ l.length = 0) → wpList P ops Q rest (a.put o.dst v') w') : wpList P ops Q (o :: rest) a w :=
  wpList_plain hgd fun _ hK => wp_append_ints s x t ho base e i z ht hi hz hsize hby hzs v n xs l hs hown vx hx hB hbytes hbase fun v' w' h1 h2 h3 => hK _ _ (h v' w' h1 h2 h3)
end
end Go.Proofs.YtmphnoabkmoafaaDoor
