/- Small laws of the walk that the proofs of this family use. -/
import Derived.WalkKit
import Derived.WalkSpells
import Derived.WalkLawsBesides
import Derived.Deep.WholeRow
import Derived.Deep.MidRow
import Derived.Test.YtkgbldkjpohinaaGreatDoorShaSpec
namespace Go.Proofs.YtkgbldkjpohinaaGreatDoor
open Go.RowKit
section
variable {P : Program} {ops : Array Oper} {Q : Exit → Act → World → Prop} {a : Act} {w : World} {rest : List Oper} {o : Oper}
/-- An operation whose run is known: its value goes into its slot. -/
theorem wpList_val (hg : o.guard = none) (v : Value) (h : (execOp a.eval o).run P w = .ok (.value v) w) (hk : wpList P ops Q rest (a.put o.dst v) w) :
    wpList P ops Q (o :: rest) a w :=
  wpList_plain hg fun K hK => by
    unfold Oper.wp
    rw [h]
    exact hK _ _ hk
/-- A new variable, its zero value under a name. -/
theorem wpList_al (hg : o.guard = none) (t : TypeId) (hop : o.op = .alloc t) (z : Value) (hz : (P.info? t).map (·.zero) = some (some z))
   (hk : wpList P ops Q rest (a.put o.dst (.pointer (some ⟨w.heap.size, 0, none⟩))) (w.alloc (.cells z.cells t))) :
    wpList P ops Q (o :: rest) a w :=
  wpList_plain hg fun K hK => by
    unfold Oper.wp
    cases hq : P.info? t with
    | none => simp [hq] at hz
    | some i =>
      have hz' : i.zero = some z := by simpa [hq] using hz
      have : (zeroValue t).run P w = .ok z w := by simp [zeroValue, typeInfo, hq, hz']
      simp [execOp, hop, Instr.alloc, this, newVar, newRow]
      exact hK _ _ hk
end
/-- Two results that lie in variables, each a whole row. -/
theorem results_two_rows {P : Program} {fn : Func} {p q : Tmp} {ty tz : TypeId} (h : fn.results = #[.cell p ty, .cell q tz]) (tmps : Array Value) (w : World) (g k : Nat) (t t' : TypeId) (cs ds : Array Value) (fr fr' : Nat × Nat) (d d' : TypeDesc)
    (hp : tmps.getD p undef = .pointer (some ⟨g, 0, none⟩)) (hg : w.heap[g]? = some (.cells cs t fr))
    (hu : P.underlying ty = some d) (hd : (match d with | .struct _ | .array _ _ => true | _ => false) = true) (hi : (P.info? ty).map (·.size) = some cs.size)
    (hp' : tmps.getD q undef = .pointer (some ⟨k, 0, none⟩)) (hg' : w.heap[k]? = some (.cells ds t' fr'))
    (hu' : P.underlying tz = some d') (hd' : (match d' with | .struct _ | .array _ _ => true | _ => false) = true) (hi' : (P.info? tz).map (·.size) = some ds.size) :
    (results fn tmps).run P w = .ok (.tuple #[.agg cs, .agg ds]) w := by
  have hp1 : tmps[p]?.getD undef = .pointer (some ⟨g, 0, none⟩) := by simpa using hp
  have hq1 : tmps[q]?.getD undef = .pointer (some ⟨k, 0, none⟩) := by simpa using hp'
  simp [results, h, hp1, hq1, asAddr, run_loadVar_row w g t ty cs fr d hg hu hd hi, run_loadVar_row w k t' tz ds fr' d' hg' hu' hd' hi']

theorem ret_int {k : IntKind} {a b : Int} (h : a = b) : Ending.returned (.int k a) = .returned (.int k b) := by rw [h]

/-- The cells of a row of 32-bit words. -/
def words (l : List Int) : Array Value := (l.map (Value.int .u32)).toArray
theorem words_oneCell (l : List Int) : (words l).all (·.oneCell') = true := all_oneCell_toArray (ints_oneCell _ _)
theorem words_size (l : List Int) : (words l).size = l.length := by simp [words]
def zz (n : Nat) : List Int := List.replicate n 0

/-- Block B is a row (type T) of the words l, none of it frozen. -/
def Row32 (w : World) (B : Nat) (T : TypeId) (l : List Int) : Prop := w.heap[B]? = some (.cells (words l) T (0, 0))
section
variable {w : World} {B : Nat} {T : TypeId} {l : List Int}
theorem Row32.lt (h : Row32 w B T l) : B < w.heap.size := (Array.getElem?_eq_some_iff.1 h).1
theorem Row32.cell (h : Row32 w B T l) {j : Nat} (hj : j < l.length) : w.cell? ⟨B, j, none⟩ = some (.int .u32 (l.getD j 0)) := by
  rw [cell_of_row w B j _ T (0, 0) h]
  simp [words, hj]
theorem Row32.frozen (h : Row32 w B T l) (j : Nat) : w.frozen? ⟨B, j, none⟩ = false := frozen_of_row w B j _ T h
theorem Row32.set (h : Row32 w B T l) (j : Nat) (v : Int) : Row32 (w.setCell ⟨B, j, none⟩ (.int .u32 v)) B T (l.set j v) := by
  unfold Row32
  rw [heap_setCell_same w B j _ T _ h]
  congr 2
  simp [words, List.map_set]
theorem Row32.other (h : Row32 w B T l) {p : Addr} (hp : B ≠ p.block) (v : Value) : Row32 (w.setCell p v) B T l := by
  unfold Row32; rw [heap_setCell_other w p B v hp]; exact h
theorem Row32.alloc (h : Row32 w B T l) (o : Obj) : Row32 (w.alloc o) B T l := by
  unfold Row32; rw [Go.RowKit.Below.heap_alloc w o B h.lt]; exact h
theorem Row32.below {C : Nat} {w' : World} (h : Row32 w B T l) (hb : Below C w w') (hB : B < C) : Row32 w' B T l := by
  unfold Row32; rw [hb.block B hB]; exact h
theorem Row32.setRow_other (h : Row32 w B T l) {g : Nat} (hg : B ≠ g) (cs : Array Value) : Row32 (w.setRow g cs) B T l := by
  unfold Row32; rw [Go.setRow_other w g B cs hg]; exact h
theorem Row32.setRow_same (h : Row32 w B T l) (l' : List Int) : Row32 (w.setRow B (words l')) B T l' := setRow_heap w B _ _ T _ h
theorem Row32.new (w : World) (T : TypeId) (l : List Int) : Row32 (w.alloc (.cells (words l) T)) w.heap.size T l := heap_alloc_new w _
theorem Row32.drew (h : Row32 w B T l) : Row32 w.drew B T l := h
end
theorem Below.setRow {B : Nat} {a w : World} (h : Below B a w) {g : Nat} (hg : B ≤ g) (cs : Array Value) : Below B a (w.setRow g cs) :=
  h.trans ⟨rfl, rfl, rfl, by simp, fun k hk => Go.setRow_other w g k cs (by omega)⟩

end Go.Proofs.YtkgbldkjpohinaaGreatDoor
