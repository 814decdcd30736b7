/- Slices of whole numbers as lists: what is read, what is appended. label.Set, label.May: whether a list is a set of tags. A box of two slices that is written: what stays, what it holds. -/
import Derived.Laws.AppendOwnNone
import Derived.Laws.IdiomStrings
import Derived.Laws.BytesArg
import Derived.WalkKit
import Derived.WalkSpells
import Derived.WalkLawsBesides
import Derived.Deep.WholeRow
import Derived.Deep.MidRow
import Derived.Lib.Walk
import Derived.Lib.Hide
import Derived.KernelRfl
import Derived.Test.YtmphnoabkmoafaaGreatDoorChecked
import Derived.Test.YtmphnoabkmoafaaGreatDoorM1
namespace Go.Proofs.YtmphnoabkmoafaaGreatDoor
open Go.RowKit
def lits (l : List Int) : List Value := l.map (Value.int .i64)
/-- Where the law's own memory begins: what lies below came in. -/
class Base (uu0 : outParam Unit) where
  lo : Nat
variable {uu0 : Unit} [Base uu0]
/-- A block of whole numbers, or one that came in. -/
structure Blk3 (w : World) (b : Nat) : Prop where
  lt : b < w.heap.size
  ty : (∃ cur, w.heap[b]? = some (.cells cur 3 (0, 0))) ∨ b < Base.lo
theorem Blk3.below {B : Nat} {w w' : World} {b : Nat} (h : Blk3 w b) (hb : Below B w w') (hB : w.heap.size ≤ B) : Blk3 w' b := by
  have h1 := h.lt
  refine ⟨by have := hb.size; omega, ?_⟩
  rcases h.ty with ⟨cur, h2⟩ | h2
  · exact .inl ⟨cur, by rw [hb.block b (by omega)]; exact h2⟩
  · exact .inr h2
/-- v is a slice that reads as the bytes l in the world w. -/
def IntsAt (w : World) (v : Value) (l : List Int) : Prop :=
  (l = [] ∧ ∃ ao c, v = .slice ao 0 c ∧ (ao = none → c = 0)) ∨
  ∃ b off c, v = .slice (some ⟨b, off, none⟩) l.length c ∧ 0 < l.length ∧ l.length ≤ c ∧ Blk3 w b ∧ ∀ j, j < l.length → w.cell? ⟨b, off + j, none⟩ = some (.int .i64 (l.getD j 0))

section
variable {w w' : World} {v : Value} {l : List Int}
theorem IntsAt.nil (w : World) : IntsAt w (.slice none 0 0) [] := .inl ⟨rfl, none, 0, rfl, fun _ => rfl⟩
theorem IntsAt.below {B : Nat} (h : IntsAt w v l) (hb : Below B w w') (hB : w.heap.size ≤ B) : IntsAt w' v l := by
  rcases h with h | ⟨b, off, c, hv, h0, hc, hlt, hcell⟩
  · exact .inl h
  · exact .inr ⟨b, off, c, hv, h0, hc, hlt.below hb hB, fun j hj => (hb.cell (p := ⟨b, off + j, none⟩) (by have := hlt.lt; simp only; omega)).trans (hcell j hj)⟩
theorem IntsAt.drewN (h : IntsAt w v l) (n : Nat) : IntsAt (w.drewN n) v l := by
  rcases h with h | ⟨b, off, c, hv, h0, hc, hlt, hcell⟩
  · exact .inl h
  · exact .inr ⟨b, off, c, hv, h0, hc, ⟨hlt.lt, hlt.ty⟩, hcell⟩
theorem IntsAt.alloc (h : IntsAt w v l) (o : Obj) : IntsAt (w.alloc o) v l :=
  h.below ((Below.refl w.heap.size w).alloc (Nat.le_refl _) o) (Nat.le_refl _)
theorem IntsAt.shape (h : IntsAt w v l) : ∃ ao c, v = .slice ao l.length c := by
  rcases h with ⟨rfl, ao, c, rfl, _⟩ | ⟨b, off, c, rfl, _⟩
  · exact ⟨ao, c, rfl⟩
  · exact ⟨_, c, rfl⟩
/-- An owned row of bytes reads as its bytes. -/
theorem IntsAt.of_owns {base : Nat} {n : Nat} (h : w.ownsRow base 3 1 v n (lits l)) : IntsAt w v l := by
  have hn : l.length = n := by simpa [lits] using h.1
  rcases h.2 with ⟨rfl, rfl⟩ | ⟨g, cap, cur, rfl, _, hg, hnc, _, _, htake⟩
  · exact .inl ⟨List.eq_nil_of_length_eq_zero hn, none, 0, rfl, fun _ => rfl⟩
  · rcases Nat.eq_zero_or_pos l.length with h0 | h0
    · exact .inl ⟨List.eq_nil_of_length_eq_zero h0, some ⟨g, 0, none⟩, cap, by rw [← hn, h0], fun h => by cases h⟩
    · refine .inr ⟨g, 0, cap, by rw [hn], h0, by omega, ⟨(Array.getElem?_eq_some_iff.1 hg).1, .inl ⟨_, hg⟩⟩, fun j hj => ?_⟩
      have hu : (lits l)[j]? = some (.int .i64 (l.getD j 0)) := by simp [lits, List.getD, hj]
      have := h.cells (g := g) rfl j _ hu
      rw [Addr.add_mid] at this
      exact this
def sliceLen : Value → Nat | .slice _ n _ => n | _ => 0
theorem owns_shape {base : Nat} {e : TypeId} {sz n : Nat} {xs : List Value} (h : w.ownsRow base e sz v n xs) : ∃ ao c, v = .slice ao n c ∧ n ≤ c ∧ (ao = none → c = 0) := by
  rcases h.2 with ⟨rfl, rfl⟩ | ⟨g, cap, cur, rfl, _, _, hnc, _⟩
  · exact ⟨none, 0, rfl, Nat.le_refl _, fun _ => rfl⟩
  · exact ⟨_, cap, rfl, hnc, fun h => by cases h⟩
theorem owns_cells {base : Nat} {e : TypeId} {n : Nat} (h : w.ownsRow base e 1 v n (lits l)) (hn : 0 < n) : ∃ g cap, v = .slice (some ⟨g, 0, none⟩) n cap ∧ base ≤ g ∧ g < w.heap.size ∧ n ≤ cap ∧ cap ≤ maxLen ∧ ∀ j, j < l.length → w.cell? ⟨g, j, none⟩ = some (.int .i64 (l.getD j 0)) := by
  rcases h.2 with ⟨_, rfl⟩ | ⟨g, cap, cur, rfl, hb, hg, hnc, hcm, _, htake⟩
  · omega
  · refine ⟨g, cap, rfl, hb, (Array.getElem?_eq_some_iff.1 hg).1, hnc, hcm, fun j hj => ?_⟩
    have hu : (lits l)[j]? = some (.int .i64 (l.getD j 0)) := by simp [lits, List.getD, hj]
    have := h.cells (g := g) rfl j _ hu
    rw [Addr.add_mid, Nat.zero_add] at this
    exact this
/-- The slice of one byte, of four bytes, that a call lays for an append. -/
theorem IntsAt.new (w : World) (e : TypeId) (l : List Int) (h : 0 < l.length) (he : e = 3 := by rfl) : IntsAt (w.alloc (.cells (lits l).toArray e)) (.slice (some ⟨w.heap.size, 0, none⟩) l.length l.length) l :=
  .inr ⟨w.heap.size, 0, l.length, rfl, h, Nat.le_refl _, ⟨by simp, .inl ⟨_, by rw [he]; exact heap_alloc_new w _⟩⟩, fun j hj => by
    rw [cell_of_row _ _ _ _ e (0, 0) (heap_alloc_new w _)]
    simp [lits, List.getD, hj]⟩
theorem lits_oneCell (l : List Int) : ∀ u ∈ lits l, u.oneCell' = true := ints_oneCell _ _
end

section
variable {P : Program} {w : World} {ops : Array Oper} {rest : List Oper} {o : Oper} {a : Act} {Q : Exit → Act → World → Prop}
/-- 'append(out, b...)', out the call's own, b whatever slice of bytes. -/
theorem wp_append_ints {K : Act → World → Prop} (s x : Operand) (t : TypeId)
    (ho : o.op = .call { callee := .builtin .append, args := #[s, x], argTypes := #[t, t] })
    (base : Nat) (e : TypeId) (i : TypeInfo) (z : Value) (ht : P.underlying t = some (.slice e)) (hi : P.info? e = some i) (hz : i.zero = some z)
    (hsize : i.size = 1) (hby : i.bytes = 8) (hzs : z.cells.size = 1)
    (v : Value) (n : Nat) (xs l : List Int) (hs : a.eval s = v) (hown : w.ownsRow base e 1 v n (lits xs))
    (vx : Value) (hx : a.eval x = vx) (hB : IntsAt w vx l)
    (hbytes : (n + l.length) * 8 ≤ 140737488355328) (hbase : base ≤ w.heap.size)
    (h : ∀ v' w', w'.ownsRow base e 1 v' (n + l.length) (lits (xs ++ l)) → w.grownBy w' v.ownBlock → (v' = .slice none 0 0 ↔ v = .slice none 0 0 ∧ l.length = 0) → K (a.put o.dst v') w') : o.wp P a w K Q := by
  rcases hB with ⟨rfl, ao, c, rfl, hao⟩ | ⟨b, off, c, rfl, h0, hc, hlt, hcell⟩
  · cases ao with
    | none =>
      obtain rfl := hao rfl
      have hrun := run_append_owned_none (P := P) w base t o.type e i 1 ht hi v n (lits xs) hown
      unfold Oper.wp
      simp [execOp, ho, resolve, invoke, builtin, hs, hx, hrun, Result.andThen]
      exact h v w (by simpa using hown) (World.grownBy.refl _ _) (by simp)
    | some ad =>
      refine wp_append_own w s x t ho base e i z 1 8 ht hi hz hsize hby hzs (by omega) v n (lits xs) hs hown ad 0 c [] hx rfl (fun j u hu => by simp at hu) (fun u hu => by cases hu) (by simp only [maxLen]; simp at hbytes; omega) (by simp at hbytes; omega) hbase ?_
      intro v' w' h1 h2 h3
      exact h v' w' (by simpa [lits] using h1) h2 h3
  · refine wp_append_own w s x t ho base e i z 1 8 ht hi hz hsize hby hzs (by omega) v n (lits xs) hs hown ⟨b, off, none⟩ l.length c (lits l) hx (by simp [lits]) (fun j u hu => ?_) (lits_oneCell l) (by simp only [maxLen]; omega) (by omega) hbase ?_
    · have hj : j < l.length := by
        have := (List.getElem?_eq_some_iff.1 hu).1
        simpa [lits] using this
      rw [Addr.add_mid, hcell j hj]
      simp [lits, List.getD, hj] at hu ⊢
      exact hu
    · intro v' w' h1 h2 h3
      exact h v' w' (by simpa [lits] using h1) h2 h3
theorem wpList_append_ints (hgd : o.guard = none) (s x : Operand) (t : TypeId)
    (ho : o.op = .call { callee := .builtin .append, args := #[s, x], argTypes := #[t, t] })
    (base : Nat) (e : TypeId) (i : TypeInfo) (z : Value) (ht : P.underlying t = some (.slice e)) (hi : P.info? e = some i) (hz : i.zero = some z)
    (hsize : i.size = 1) (hby : i.bytes = 8) (hzs : z.cells.size = 1)
    (v : Value) (n : Nat) (xs l : List Int) (hs : a.eval s = v) (hown : w.ownsRow base e 1 v n (lits xs))
    (vx : Value) (hx : a.eval x = vx) (hB : IntsAt w vx l)
    (hbytes : (n + l.length) * 8 ≤ 140737488355328) (hbase : base ≤ w.heap.size)
    (h : ∀ v' w', w'.ownsRow base e 1 v' (n + l.length) (lits (xs ++ l)) → w.grownBy w' v.ownBlock → (v' = .slice none 0 0 ↔ v = .slice none 0 0 ∧ l.length = 0) → wpList P ops Q rest (a.put o.dst v') w') : wpList P ops Q (o :: rest) a w :=
  wpList_plain hgd fun _ hK => wp_append_ints s x t ho base e i z ht hi hz hsize hby hzs v n xs l hs hown vx hx hB hbytes hbase fun v' w' h1 h2 h3 => hK _ _ (h v' w' h1 h2 h3)
end
end Go.Proofs.YtmphnoabkmoafaaGreatDoor
namespace Go.Proofs.YtmphnoabkmoafaaGreatDoor
open Go.RowKit
variable {uu0 : Unit} [Base uu0]
/-- The first k of a list are tags in rising order. -/
def risesTo (l : List Int) : Nat → Bool
  | 0 => true
  | k + 1 => risesTo l k && (decide (1 ≤ l.getD k 0) && decide (l.getD k 0 ≤ 2147483647) && (decide (k = 0) || decide (l.getD (k - 1) 0 < l.getD k 0)))
def setL (l : List Int) : Bool := risesTo l l.length && decide (l.length ≤ 16)
theorem risesTo_mono (l : List Int) {k : Nat} (h : risesTo l k = false) : ∀ n, k ≤ n → risesTo l n = false := by
  intro n hn
  induction n with
  | zero => obtain rfl : k = 0 := by omega
            exact h
  | succ n ih =>
    rcases Nat.lt_or_ge n k with h1 | h1
    · obtain rfl : k = n + 1 := by omega
      exact h
    · rw [risesTo, ih h1]; rfl
theorem IntsAt.cells {w : World} {v : Value} {l : List Int} (h : IntsAt w v l) (h0 : 0 < l.length) : ∃ g off c, v = .slice (some ⟨g, off, none⟩) l.length c ∧ ∀ j, j < l.length → w.cell? ⟨g, off + j, none⟩ = some (.int .i64 (l.getD j 0)) := by
  rcases h with ⟨rfl, _⟩ | ⟨g, off, c, hv, _, _, _, hc⟩
  · simp at h0
  · exact ⟨g, off, c, hv, hc⟩
theorem setL_false {l : List Int} {k : Nat} (hk : k < l.length) (h : risesTo l (k + 1) = false) : setL l = false := by
  unfold setL
  rw [risesTo_mono l h _ hk]; rfl
set_option maxRecDepth 100000 in
set_option maxHeartbeats 2000000 in
theorem set_any (v : Value) (l : List Int) (w : World) (h : IntsAt w v l) (hl : l.length ≤ 4611686018427387904) :
    Calls Tryz.prog 57 #[v] w fun e w' => e = .returned (.bool (setL l)) ∧ w' = w := by
  obtain ⟨ao, c, rfl⟩ := h.shape
  go_enter Tryz.func57, Tryz.ntmps57
  go_wp2
  go_loop [7] (fun u => ∃ k : Nat, k ≤ l.length ∧ u = .int .i64 k ∧ risesTo l k = true) (fun u => l.length - (intOf u).toNat)
  case atStart => exact ⟨0, by omega, rfl, rfl⟩
  case round =>
    obtain ⟨k, hk, rfl, hr⟩ := hrel
    by_cases hlt : k < l.length
    · obtain ⟨g, off, c', hv, hcell⟩ := h.cells (by omega)
      obtain ⟨rfl, rfl⟩ : ao = some ⟨g, off, none⟩ ∧ c = c' := by simpa using hv
      have c0 := hcell k hlt
      obtain ⟨x, hx⟩ : ∃ x, x = l.getD k 0 := ⟨_, rfl⟩
      rw [← hx] at c0
      obtain ⟨n, hn⟩ : ∃ n, n = l.length := ⟨_, rfl⟩
      have hstep : risesTo l (k + 1) = (decide (1 ≤ x) && decide (x ≤ 2147483647) && (decide (k = 0) || decide (l.getD (k - 1) 0 < x))) := by
        rw [risesTo, hr, hx]; rfl
      rcases Nat.eq_zero_or_pos k with rfl | hk0
      · rw [Nat.add_zero] at c0
        have Hs := Lib.hid hstep
        have Hx := Lib.hid hx
        clear hcell h hv hr hstep hx
        rw [← hn] at hl hlt ⊢
        have Hn := Lib.hid hn
        clear hn hk
        go_wp2
        all_goals first
          | (go_ret; refine ⟨?_, rfl⟩; rw [setL_false (k := 0) (by have := Hn.out; omega) (by rw [Hs.out]; simp; omega)]; rfl)
          | (refine ⟨⟨1, by omega, rfl, ?_⟩, ?_⟩; (rw [Hs.out]; simp; omega); (simp [intOf]; omega))
      · obtain ⟨j, rfl⟩ : ∃ j, k = j + 1 := ⟨k - 1, by omega⟩
        have c1 := hcell j (by omega)
        obtain ⟨y, hy⟩ : ∃ y, y = l.getD j 0 := ⟨_, rfl⟩
        rw [← hy] at c1
        rw [show j + 1 - 1 = j from rfl, ← hy] at hstep
        have Hs := Lib.hid hstep
        have e1 : wrap64 ((j : Int) + 1 - 1) = j := by unfold wrap64; omega
        clear hcell h hv hr hstep hx hy
        rw [← hn] at hl hlt ⊢
        have Hn := Lib.hid hn
        clear hn hk
        go_wp2
        all_goals first
          | (go_ret; refine ⟨?_, rfl⟩; rw [setL_false (k := j + 1) (by have := Hn.out; omega) (by rw [Hs.out]; simp; omega)]; rfl)
          | (refine ⟨⟨j + 2, by omega, by go_num, ?_⟩, ?_⟩; (rw [Hs.out]; simp; omega); (simp [intOf]; omega))
    · obtain rfl : k = l.length := by omega
      have hs : setL l = decide (l.length ≤ 16) := by unfold setL; rw [hr]; rfl
      have Hs := Lib.hid hs
      obtain ⟨n, hn⟩ : ∃ n, n = l.length := ⟨_, rfl⟩
      clear hs hr h
      rw [← hn] at Hs hl ⊢
      clear hn
      go_wp2
      go_ret
      rw [Hs.out]
      exact ⟨by simp; omega, rfl⟩
end Go.Proofs.YtmphnoabkmoafaaGreatDoor
namespace Go.Proofs.YtmphnoabkmoafaaGreatDoor
open Go.RowKit
variable {uu0 : Unit} [Base uu0]
def isSlice : Value → Bool | .slice _ _ _ => true | _ => false
theorem box_block {w W W' : World} {o : Obj} (h1 : Below (w.alloc o).heap.size (w.alloc o) W) (h2 : Below W.heap.size W W') : W'.heap[w.heap.size]? = some o := by
  have hB : (w.alloc o).heap[w.heap.size]? = some o := heap_alloc_new _ _
  have hs : (w.alloc o).heap.size = w.heap.size + 1 := by simp
  have e1 := h1.block w.heap.size (by rw [hs]; omega)
  have e2 := h2.block w.heap.size (by have := h1.size; rw [hs] at this; omega)
  rw [e2, e1, hB]
theorem box_last {w W W' : World} {o : Obj} (hW : W = w.alloc o) (h : Below W.heap.size W W') : W'.heap[w.heap.size]? = some o := by
  subst hW
  exact box_block (Below.refl _ _) h
section
variable {w : World} {B : Nat} {t : TypeId} {s0 s1 x y v : Value} {l : List Int}
theorem IntsAt.apart {cs : Array Value} (h : IntsAt w v l) (hB : w.heap[B]? = some (.cells cs t (0, 0))) (hcs : ∀ (j : Nat) (n : Int), cs[j]? ≠ some (Value.int .i64 n)) (j : Nat) (u : Value) : IntsAt (w.setCell ⟨B, j, none⟩ u) v l := by
  rcases h with h | ⟨g, off, c, hv, h0, hc, hlt, hcell⟩
  · exact .inl h
  · have hg : g ≠ B := by
      rintro rfl
      have h1 := hcell 0 h0
      rw [cell_of_row w g _ _ t (0, 0) hB] at h1
      exact hcs _ _ h1
    refine .inr ⟨g, off, c, hv, h0, hc, ⟨by rw [World.size_setCell]; exact hlt.lt, hlt.ty.imp (fun ⟨cur, hcur⟩ => ⟨cur, by rw [heap_setCell_other w ⟨B, j, none⟩ g u (by simpa using hg)]; exact hcur⟩) id⟩, fun j' hj => ?_⟩
    · rw [← hcell j' hj]
      exact World.cell?_of_block (w := w) (heap_setCell_other w ⟨B, j, none⟩ g u (by simpa using hg))
structure PairStored (w w' : World) (B : Nat) (t : TypeId) (x y : Value) : Prop where
  block : w'.heap[B]? = some (.cells #[x, y] t (0, 0))
  ints : ∀ v l, IntsAt w v l → IntsAt w' v l
  below : ∀ n w0, Below n w0 w → n ≤ B → Below n w0 w'
  size : w'.heap.size = w.heap.size
  far : ∀ g, g ≠ B → w'.heap[g]? = w.heap[g]?
theorem pair_stored (hB : w.heap[B]? = some (.cells #[s0, s1] t (0, 0))) (h0 : isSlice s0 = true) (h1 : isSlice s1 = true) (hx : isSlice x = true) : PairStored w ((w.setCell ⟨B, 0, none⟩ x).setCell ⟨B, 1, none⟩ y) B t x y := by
  have e1 : (w.setCell ⟨B, 0, none⟩ x).heap[B]? = some (.cells #[x, s1] t (0, 0)) := heap_setCell_same w B 0 _ t x hB
  have e2 : ((w.setCell ⟨B, 0, none⟩ x).setCell ⟨B, 1, none⟩ y).heap[B]? = some (.cells #[x, y] t (0, 0)) := heap_setCell_same _ B 1 _ t y e1
  have k : ∀ (a b : Value), isSlice a = true → isSlice b = true → ∀ (j : Nat) (n : Int), (#[a, b] : Array Value)[j]? ≠ some (Value.int .i64 n) := by
    intro a b ha hb j n hj
    rcases j with _ | _ | j
    · simp at hj; subst hj; cases ha
    · simp at hj; subst hj; cases hb
    · simp at hj
  refine ⟨e2, fun v l h => (h.apart hB (k _ _ h0 h1) 0 x).apart e1 (k _ _ hx h1) 1 y, fun n w0 h hn => (h.setCell (by simpa using hn) _).setCell (by simpa using hn) _, by rw [World.size_setCell, World.size_setCell], fun g hg => ?_⟩
  rw [heap_setCell_other _ ⟨B, 1, none⟩ g y (by simpa using hg), heap_setCell_other w ⟨B, 0, none⟩ g x (by simpa using hg)]
theorem pair_cells (hB : w.heap[B]? = some (.cells #[x, y] t (0, 0))) : w.cell? ⟨B, 0, none⟩ = some x ∧ w.cell? ⟨B, 1, none⟩ = some y ∧ w.frozen? ⟨B, 0, none⟩ = false ∧ w.frozen? ⟨B, 1, none⟩ = false := by
  refine ⟨?_, ?_, frozen_of_row w B 0 _ t hB, frozen_of_row w B 1 _ t hB⟩
  · rw [cell_of_row w B 0 _ t (0, 0) hB]; rfl
  · rw [cell_of_row w B 1 _ t (0, 0) hB]; rfl
end
end Go.Proofs.YtmphnoabkmoafaaGreatDoor
