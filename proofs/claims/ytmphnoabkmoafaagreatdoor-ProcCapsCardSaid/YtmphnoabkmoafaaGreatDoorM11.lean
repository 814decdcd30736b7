/- A table of processes: as a list of records, and as it lies in memory. -/
import Derived.Maps.OwnSet
import Derived.Maps.RangeWalk
import Derived.Maps.Ext
import Derived.Sort.KeysCollected
import Derived.Test.YtmphnoabkmoafaaGreatDoorM10
import Derived.Test.YtmphnoabkmoafaaGreatDoorM3
namespace Go.Proofs.YtmphnoabkmoafaaGreatDoor
open Go.RowKit Go.Maps
open Go.WideMaps (keyOf_string_mk)
set_option linter.unusedVariables false
variable {uu0 : Unit} [Base uu0]
/-- A process, as plain data. -/
structure PR where
  id : ByteArray
  par : ByteArray
  S : List Int
  I : List Int
  Plus : List Int
  Minus : List Int
  share : Int
  status : Int
  exited : Bool
  forks : Int
  tags : Int
  mask : Int
  pending : Int
def PR.cells (p : PR) (vS vI vP vM : Value) : Array Value := #[.string p.id, .string p.par, vS, vI, vP, vM, .int .i64 p.share, .int .i64 p.status, .bool p.exited, .int .i64 p.forks, .int .i64 p.tags, .int .i64 p.mask, .int .i64 p.pending]
/-- What every block of whole numbers bore it bears still, and every block that came in. -/
structure Keep3 (w w' : World) : Prop where
  ty : ∀ (g : Nat) (cur : Array Value), w.heap[g]? = some (.cells cur 3 (0, 0)) → w'.heap[g]? = some (.cells cur 3 (0, 0))
  low : ∀ (g : Nat) (cs : Array Value) (t : TypeId) (z : Nat × Nat), g < Base.lo → w.heap[g]? = some (.cells cs t z) → w'.heap[g]? = some (.cells cs t z)
section
variable {w w' : World} {v : Value} {l : List Int}
theorem Keep3.refl (w : World) : Keep3 w w := ⟨fun _ _ h => h, fun _ _ _ _ _ h => h⟩
theorem Keep3.trans {w'' : World} (h : Keep3 w w') (k : Keep3 w' w'') : Keep3 w w'' := ⟨fun g c e => k.ty g c (h.ty g c e), fun g c t z l e => k.low g c t z l (h.low g c t z l e)⟩
theorem Keep3.of_below (h : Below w.heap.size w w') : Keep3 w w' := ⟨fun g cur e => by rw [h.block g (Array.getElem?_eq_some_iff.1 e).1]; exact e, fun g cs t z _ e => by rw [h.block g (Array.getElem?_eq_some_iff.1 e).1]; exact e⟩
theorem Keep3.of_grown {M : Nat} {es : Array MapEntry} {k : Nat} (h : w.grownBy w' (some M)) (hM : w.heap[M]? = some (.map es k)) : Keep3 w w' := ⟨fun g cur e => by
  rw [h.block g (Array.getElem?_eq_some_iff.1 e).1 (by rintro ⟨⟩; rw [hM] at e; cases e)]; exact e, fun g cs t z _ e => by
  rw [h.block g (Array.getElem?_eq_some_iff.1 e).1 (by rintro ⟨⟩; rw [hM] at e; cases e)]; exact e⟩
theorem Keep3.of_far {B : Nat} {cs : Array Value} {t : TypeId} (ht : t ≠ 3) (hB : w.heap[B]? = some (.cells cs t (0, 0))) (h : ∀ g, g ≠ B → w'.heap[g]? = w.heap[g]?) (hlo : Base.lo ≤ B) : Keep3 w w' := ⟨fun g cur e => by
  rw [h g (by rintro rfl; rw [hB] at e; cases e; exact ht rfl)]; exact e, fun g cs t z l e => by
  rw [h g (by omega)]; exact e⟩
theorem cells_of_cell {a : Addr} {u : Value} (h : w.cell? ⟨a.block, a.off, none⟩ = some u) : ∃ cs t z, w.heap[a.block]? = some (.cells cs t z) := by
  unfold World.cell? at h
  simp only at h
  split at h
  · rename_i cs t z e
    exact ⟨cs, t, z, e⟩
  · cases h
theorem IntsAt.keep (h : IntsAt w v l) (k : Keep3 w w') : IntsAt w' v l := by
  rcases h with h | ⟨b, off, c, hv, h0, hc, ⟨hlt, hty⟩, hcell⟩
  · exact .inl h
  · rcases hty with ⟨cur, hcur⟩ | hlo
    · have e := k.ty b cur hcur
      exact .inr ⟨b, off, c, hv, h0, hc, ⟨(Array.getElem?_eq_some_iff.1 e).1, .inl ⟨cur, e⟩⟩, fun j hj => (World.cell?_of_block (w := w) (w' := w') (a := ⟨b, off + j, none⟩) (e.trans hcur.symm)).trans (hcell j hj)⟩
    · obtain ⟨cs, t, z, hcur⟩ := cells_of_cell (a := ⟨b, off + 0, none⟩) (hcell 0 h0)
      have e := k.low b cs t z hlo hcur
      exact .inr ⟨b, off, c, hv, h0, hc, ⟨(Array.getElem?_eq_some_iff.1 e).1, .inr hlo⟩, fun j hj => (World.cell?_of_block (w := w) (w' := w') (a := ⟨b, off + j, none⟩) (e.trans hcur.symm)).trans (hcell j hj)⟩
end
/-- What every block of cells but a process's own bore it bears still. -/
def Still (w w' : World) : Prop := ∀ (k : Nat) (cs : Array Value) (t : TypeId) (f : Nat × Nat), w.heap[k]? = some (.cells cs t f) → t ≠ 68 → w'.heap[k]? = some (.cells cs t f)
/-- Nothing below B is turned, and no block of cells but processes. -/
structure Bel (B : Nat) (w w' : World) : Prop extends Below B w w' where
  still : Still w w'
  low : ∀ (g : Nat) (cs : Array Value) (t : TypeId) (z : Nat × Nat), g < Base.lo → w.heap[g]? = some (.cells cs t z) → w'.heap[g]? = some (.cells cs t z)
section
variable {w w' w'' : World} {B : Nat}
theorem Still.refl (w : World) : Still w w := fun _ _ _ _ h _ => h
theorem Still.trans (h : Still w w') (k : Still w' w'') : Still w w'' := fun g c t f e n => k g c t f (h g c t f e n) n
theorem Still.of_below (h : Below w.heap.size w w') : Still w w' := fun g cs t f e _ => by rw [h.block g (Array.getElem?_eq_some_iff.1 e).1]; exact e
theorem Still.of_far {g : Nat} {cs : Array Value} {f : Nat × Nat} (hg : w.heap[g]? = some (.cells cs 68 f)) (h : ∀ k, k ≠ g → w'.heap[k]? = w.heap[k]?) : Still w w' := fun k c t f e n => by
  rw [h k (by rintro rfl; rw [hg] at e; cases e; exact n rfl)]; exact e
theorem Still.of_grown {r : Nat} (hg : w.grownBy w' (some r)) (hr : ∀ cs t f, w.heap[r]? ≠ some (.cells cs t f)) : Still w w' := fun k c t f e n => by
  rw [hg.block k (Array.getElem?_eq_some_iff.1 e).1 (by rintro e2; cases e2; exact hr _ _ _ e)]; exact e
theorem Bel.keep3 (h : Bel B w w') : Keep3 w w' := ⟨fun g cur e => h.still g cur 3 (0, 0) e (by decide), h.low⟩
theorem Bel.refl (B : Nat) (w : World) : Bel B w w := ⟨Below.refl _ _, Still.refl _, fun _ _ _ _ _ h => h⟩
theorem Bel.trans (h : Bel B w w') (k : Bel B w' w'') : Bel B w w'' := ⟨h.toBelow.trans k.toBelow, h.still.trans k.still, fun g c t z l e => k.low g c t z l (h.low g c t z l e)⟩
theorem _root_.Go.RowKit.Below.bel (h : Below w.heap.size w w') (hB : B ≤ w.heap.size) : Bel B w w' := ⟨h.mono hB, Still.of_below h, (Keep3.of_below h).low⟩
theorem Bel.drew (h : Bel B w w') : Bel B w w'.drew := ⟨h.toBelow.drew, h.still, h.low⟩
theorem Bel.alloc (h : Bel B w w') (hB : B ≤ w'.heap.size) (o : Obj) : Bel B w (w'.alloc o) := h.trans (((Below.refl w'.heap.size w').alloc (Nat.le_refl _) o).bel hB)
theorem Bel.set66 (h : Bel B w w') {g i : Nat} {cs : Array Value} {f : Nat × Nat} (hg : w'.heap[g]? = some (.cells cs 68 f)) (hB : B ≤ g) (u : Value) (hlo : Base.lo ≤ B) : Bel B w (w'.setCell ⟨g, i, none⟩ u) :=
  ⟨h.toBelow.setCell (p := ⟨g, i, none⟩) hB u, h.still.trans (Still.of_far hg (fun k hk => heap_setCell_other w' ⟨g, i, none⟩ k u (by simpa using hk))), fun k c t z l e => by rw [heap_setCell_other w' ⟨g, i, none⟩ k u (by simp only [ne_eq]; omega)]; exact h.low k c t z l e⟩
theorem Bel.grown66 (h : Bel B w w') {r : Nat} (hg : w'.grownBy w'' (some r)) (hB : B ≤ w'.heap.size) (hr : B ≤ r) (hc : ∀ cs t f, w'.heap[r]? ≠ some (.cells cs t f)) : Bel B w w'' :=
  ⟨h.toBelow.grown hg hB (fun k hk => by cases hk; exact hr), h.still.trans (Still.of_grown hg hc), fun k c t z l e => by
    have e2 := h.low k c t z l e
    rw [hg.block k (Array.getElem?_eq_some_iff.1 e2).1 (by rintro e3; cases e3; exact hc _ _ _ e2)]; exact e2⟩
end
structure ProcAt (w : World) (b : Nat) (p : PR) (vS vI vP vM : Value) : Prop where
  row : w.heap[b]? = some (.cells (p.cells vS vI vP vM) 68 (0, 0))
  hS : IntsAt w vS p.S
  hI : IntsAt w vI p.I
  hP : IntsAt w vP p.Plus
  hM : IntsAt w vM p.Minus
theorem ProcAt.keep {w w' : World} {b : Nat} {p : PR} {vS vI vP vM : Value} (h : ProcAt w b p vS vI vP vM) (k : Keep3 w w') (hb : w'.heap[b]? = w.heap[b]?) : ProcAt w' b p vS vI vP vM :=
  ⟨hb.trans h.row, h.hS.keep k, h.hI.keep k, h.hP.keep k, h.hM.keep k⟩
/-- The cells of a process, each by itself. -/
theorem ProcAt.cell {w : World} {b : Nat} {p : PR} {vS vI vP vM : Value} (h : ProcAt w b p vS vI vP vM) (i : Nat) : w.cell? ⟨b, i, none⟩ = (p.cells vS vI vP vM)[i]? := cell_of_row w b i _ 68 (0, 0) h.row
theorem ProcAt.frozen {w : World} {b : Nat} {p : PR} {vS vI vP vM : Value} (h : ProcAt w b p vS vI vP vM) (i : Nat) : w.frozen? ⟨b, i, none⟩ = false := frozen_of_row w b i _ 68 h.row
def get (L : List PR) (id : ByteArray) : Option PR := L.find? fun p => decide (p.id = id)
def updP (p' : PR) (L : List PR) : List PR := L.map fun q => if q.id = p'.id then p' else q
def delP (id : ByteArray) (L : List PR) : List PR := L.filter fun q => !decide (q.id = id)
def keyL (s : ByteArray) : Lit := .string s.data.toList
def putP (p : PR) : List PR → List PR
  | [] => [p]
  | q :: r => if (keyL p.id).before (keyL q.id) then p :: q :: r else q :: putP p r
theorem keyL_inj {s t : ByteArray} (h : keyL s = keyL t) : s = t := by
  cases s; cases t
  simp [keyL] at h
  rw [h]
theorem keyL_same (s t : ByteArray) : (keyL s).sameKey (keyL t) = decide (s = t) := by
  rw [Bool.eq_iff_iff]
  simp only [keyL, Lit.sameKey, beq_iff_eq, decide_eq_true_eq]
  exact ⟨fun h => keyL_inj (congrArg Lit.string h), fun h => by rw [h]⟩
def encP (bl : ByteArray → Nat) (L : List PR) : List (Lit × DataW Unit) := L.map fun p => (keyL p.id, .lit (.int .i64 (bl p.id)))
def encT (bl : ByteArray → Nat) (L : List PR) : DataW Unit := .map (encP bl L)
def readP (v : Value) : Option (DataW Unit × List MemPlace) := match v with
  | .pointer none => some (.nil, [])
  | .pointer (some ⟨b, 0, none⟩) => some (.lit (.int .i64 b), [])
  | _ => none
def ptr (b : Nat) : Value := .pointer (some ⟨b, 0, none⟩)
theorem readP_ptr (b : Nat) : readP (ptr b) = some (.lit (.int .i64 b), []) := rfl
theorem readP_nil {v : Value} {ps : List MemPlace} (h : readP v = some (.nil, ps)) : v = .pointer none := by
  unfold readP at h
  split at h
  · rfl
  · cases h
  · cases h
theorem readP_lit {v : Value} {ps : List MemPlace} {b : Nat} (h : readP v = some (.lit (.int .i64 b), ps)) : v = ptr b := by
  unfold readP at h
  split at h
  · cases h
  · rename_i g
    simp only [Option.some.injEq, Prod.mk.injEq, DataW.lit.injEq, Lit.int.injEq, true_and] at h
    have := h.1
    rw [show g = b by omega]
    rfl
  · cases h
theorem readP_inv {v : Value} {y : DataW Unit × List MemPlace} (h : readP v = some y) : ∃ c : Option Nat, v = .pointer (c.map fun b => ⟨b, 0, none⟩) := by
  unfold readP at h
  split at h
  · exact ⟨none, rfl⟩
  · rename_i b
    exact ⟨some b, rfl⟩
  · cases h
section
variable {bl : ByteArray → Nat} {L : List PR}
theorem find_encP (bl : ByteArray → Nat) (id : ByteArray) : ∀ L : List PR, (encP bl L).find? (fun p => p.1.sameKey (keyL id)) = (get L id).map fun p => (keyL p.id, .lit (.int .i64 (bl p.id)))
  | [] => rfl
  | p :: r => by
    have ih := find_encP bl id r
    unfold get encP at *
    rw [List.map_cons, List.find?_cons, List.find?_cons, keyL_same]
    by_cases h : p.id = id
    · simp [h]
    · simp [h, ih]
theorem atKey_enc (bl : ByteArray → Nat) (L : List PR) (id : ByteArray) (z : DataW Unit) : (encT bl L).atKey (keyL id) z = match get L id with | some p => .lit (.int .i64 (bl p.id)) | none => z := by
  unfold encT DataW.atKey
  simp only [find_encP]
  cases get L id <;> rfl
theorem get_mem {id : ByteArray} {p : PR} (h : get L id = some p) : p ∈ L ∧ p.id = id := ⟨List.mem_of_find?_eq_some h, by simpa using List.find?_some h⟩
theorem filter_encP (bl : ByteArray → Nat) (id : ByteArray) (L : List PR) : (encP bl L).filter (fun p => !p.1.sameKey (keyL id)) = encP bl (delP id L) := by
  unfold encP delP
  rw [List.filter_map]
  congr 1
  apply List.filter_congr
  intro q _
  simp [keyL_same]
theorem delP_none {id : ByteArray} (h : get L id = none) : delP id L = L := by
  unfold delP
  rw [List.filter_eq_self]
  intro q hq
  have := List.find?_eq_none.1 h q hq
  simpa using this
theorem insert_encP (bl : ByteArray → Nat) (p : PR) : ∀ L : List PR, DataW.insert (keyL p.id, .lit (.int .i64 (bl p.id))) (encP bl L) = encP bl (putP p L)
  | [] => rfl
  | q :: r => by
    have ih := insert_encP bl p r
    unfold encP at *
    rw [List.map_cons, DataW.insert, putP]
    by_cases h : (keyL p.id).before (keyL q.id) = true
    · rw [if_pos h, if_pos h]; rfl
    · rw [if_neg h, if_neg h, List.map_cons, ih]
theorem encP_congr {bl bl' : ByteArray → Nat} (h : ∀ p ∈ L, bl p.id = bl' p.id) : encP bl L = encP bl' L := by
  unfold encP
  apply List.map_congr_left
  intro p hp
  rw [h p hp]
theorem put_enc (bl : ByteArray → Nat) (b : Nat) (p : PR) (h : get L p.id = none) : (encT bl L).put (keyL p.id) (.lit (.int .i64 b)) = encT (fun k => if k = p.id then b else bl k) (putP p L) := by
  unfold encT DataW.put
  show DataW.map (DataW.insert _ ((encP bl L).filter _)) = _
  rw [filter_encP, delP_none h, ← insert_encP]
  simp only [if_true]
  rw [encP_congr (bl' := fun k => if k = p.id then b else bl k)]
  intro q hq
  have := List.find?_eq_none.1 h q hq
  simp only [decide_eq_true_eq] at this
  rw [if_neg this]
theorem del_enc (bl : ByteArray → Nat) (L : List PR) (id : ByteArray) : (encT bl L).del (keyL id) = encT bl (delP id L) := by
  unfold encT DataW.del
  show DataW.map ((encP bl L).filter _) = _
  rw [filter_encP]
theorem upd_enc (bl : ByteArray → Nat) (L : List PR) (p' : PR) : encT bl (updP p' L) = encT bl L := by
  unfold encT encP updP
  rw [List.map_map]
  congr 1
  apply List.map_congr_left
  intro q _
  simp only [Function.comp]
  split
  · rename_i h; rw [h]
  · rfl
theorem mem_putP (p : PR) : ∀ {L : List PR} {q : PR}, q ∈ putP p L ↔ q = p ∨ q ∈ L
  | [], q => by simp [putP]
  | r :: s, q => by
    unfold putP
    split
    · simp
    · simp only [List.mem_cons, mem_putP p (L := s)]
      constructor
      · rintro (h | h | h)
        · exact .inr (.inl h)
        · exact .inl h
        · exact .inr (.inr h)
      · rintro (h | h | h)
        · exact .inr (.inl h)
        · exact .inl h
        · exact .inr (.inr h)
theorem length_putP (p : PR) : ∀ L : List PR, (putP p L).length = L.length + 1
  | [] => rfl
  | r :: s => by
    unfold putP
    split
    · rfl
    · simp [length_putP p s]
end
/-- The table as it lies: its block T, its map M, each process at the block that its name has. -/
structure TabAt (w : World) (B T M : Nat) (bl : ByteArray → Nat) (L : List PR) : Prop where
  tab : w.heap[T]? = some (.cells #[.map (some M)] 71 (0, 0))
  map : w.ownsMap Tryz.prog 9 readP M L.length (encT bl L)
  procs : ∀ p ∈ L, ∃ vS vI vP vM, ProcAt w (bl p.id) p vS vI vP vM
  inj : ∀ p ∈ L, ∀ q ∈ L, bl p.id = bl q.id → p.id = q.id
  lowT : B ≤ T
  lowM : B ≤ M
  lowP : ∀ p ∈ L, B ≤ bl p.id
  lowB : Base.lo ≤ B
theorem und9 : Tryz.prog.underlying 9 = some .string := by kernel_rfl
theorem und67 : Tryz.prog.underlying 69 = some (.map 9 66) := by kernel_rfl
theorem law9 : Keyed Tryz.prog 9 := string_keyed und9
theorem zero64 (w : World) : (zeroValue 66).run Tryz.prog w = .ok (.pointer none) w := by kernel_rfl
/-- What a look-up by a name finds. -/
def ptrOf (bl : ByteArray → Nat) (L : List PR) (id : ByteArray) : Value := match get L id with | some p => ptr (bl p.id) | none => .pointer none
section
variable {w w' : World} {B T M : Nat} {bl : ByteArray → Nat} {L : List PR}
theorem TabAt.cellT (h : TabAt w B T M bl L) : w.cell? ⟨T, 0, none⟩ = some (.map (some M)) := by rw [cell_of_row w T 0 _ 71 (0, 0) h.tab]; rfl
theorem TabAt.ltT (h : TabAt w B T M bl L) : T < w.heap.size := (Array.getElem?_eq_some_iff.1 h.tab).1
theorem TabAt.ltP (h : TabAt w B T M bl L) {p : PR} (hp : p ∈ L) : bl p.id < w.heap.size := by
  obtain ⟨_, _, _, _, h⟩ := h.procs p hp
  exact (Array.getElem?_eq_some_iff.1 h.row).1
theorem TabAt.lookup (h : TabAt w B T M bl L) (id : ByteArray) (hid : id.size ≤ maxLen) : (Instr.lookup 69 (.map (some M)) (.string id) false).run Tryz.prog w = .ok (ptrOf bl L id) w := by
  obtain ⟨v, ps, hrun, hv⟩ := h.map.lookup law9 und67 (zero64 w) (zd := .nil) (zp := []) rfl (keyOf_string_mk und9 hid)
  rw [hrun]
  have e := atKey_enc bl L id .nil
  unfold keyL at e
  rw [e] at hv
  unfold ptrOf
  cases hg : get L id with
  | none => rw [hg] at hv; rw [readP_nil hv]
  | some p => rw [hg] at hv; rw [readP_lit hv]
theorem TabAt.below (h : TabAt w B T M bl L) (hb : Below w.heap.size w w') : TabAt w' B T M bl L where
  tab := (hb.block T h.ltT).trans h.tab
  map := by
    obtain ⟨es, clock, h0, r⟩ := h.map
    exact ⟨es, clock, (hb.block M (Array.getElem?_eq_some_iff.1 h0).1).trans h0, r⟩
  procs := fun p hp => by
    obtain ⟨a, b, c, d, hh⟩ := h.procs p hp
    exact ⟨a, b, c, d, hh.keep (Keep3.of_below hb) (hb.block _ (h.ltP hp))⟩
  inj := h.inj
  lowT := h.lowT
  lowM := h.lowM
  lowP := h.lowP
  lowB := h.lowB
/-- One process is turned, and nothing else. -/
theorem TabAt.turn (h : TabAt w B T M bl L) {p p' : PR} (hp : p ∈ L) (hid : p'.id = p.id) (hfar : ∀ g, g ≠ bl p.id → w'.heap[g]? = w.heap[g]?)
    (hnew : ∃ vS vI vP vM, ProcAt w' (bl p.id) p' vS vI vP vM) : TabAt w' B T M bl (updP p' L) := by
  obtain ⟨_, _, _, _, h0⟩ := h.procs p hp
  have k : Keep3 w w' := Keep3.of_far (by decide) h0.row hfar (Nat.le_trans h.lowB (h.lowP p hp))
  refine ⟨?_, ?_, ?_, ?_, h.lowT, h.lowM, ?_, h.lowB⟩
  · rw [hfar T (by rintro e; have := h.tab; rw [e, h0.row] at this; cases this)]; exact h.tab
  · rw [upd_enc, show (updP p' L).length = L.length by simp [updP]]
    obtain ⟨es, clock, hb, r⟩ := h.map
    exact ⟨es, clock, by rw [hfar M (by rintro e; rw [e, h0.row] at hb; cases hb)]; exact hb, r⟩
  · intro q hq
    obtain ⟨q0, hq0, rfl⟩ := List.mem_map.1 hq
    split
    · rename_i e
      rw [hid]; exact hnew
    · rename_i e
      obtain ⟨a, b, c, d, hh⟩ := h.procs q0 hq0
      exact ⟨a, b, c, d, hh.keep k (hfar _ (fun e' => e (by rw [hid]; exact h.inj q0 hq0 p hp e')))⟩
  · intro q hq r hr
    obtain ⟨q0, hq0, rfl⟩ := List.mem_map.1 hq
    obtain ⟨r0, hr0, rfl⟩ := List.mem_map.1 hr
    have eid : ∀ q0 : PR, (if q0.id = p'.id then p' else q0).id = q0.id := fun q0 => by split <;> simp_all
    rw [eid, eid]
    exact h.inj q0 hq0 r0 hr0
  · intro q hq
    obtain ⟨q0, hq0, rfl⟩ := List.mem_map.1 hq
    have eid : (if q0.id = p'.id then p' else q0).id = q0.id := by split <;> simp_all
    rw [eid]; exact h.lowP q0 hq0
/-- One plain cell of one process is written. -/
theorem TabAt.set (h : TabAt w B T M bl L) {p p' : PR} (hp : p ∈ L) (hid : p'.id = p.id) (i : Nat) (u : Value) (hrow : ∀ a b c d, (p.cells a b c d).setIfInBounds i u = p'.cells a b c d)
    (hS : p'.S = p.S) (hI : p'.I = p.I) (hP : p'.Plus = p.Plus) (hM : p'.Minus = p.Minus) : TabAt (w.setCell ⟨bl p.id, i, none⟩ u) B T M bl (updP p' L) := by
  obtain ⟨a, b, c, d, h0⟩ := h.procs p hp
  have hfar : ∀ g, g ≠ bl p.id → (w.setCell ⟨bl p.id, i, none⟩ u).heap[g]? = w.heap[g]? := fun g hg => heap_setCell_other w ⟨bl p.id, i, none⟩ g u (by simpa using hg)
  have k : Keep3 w (w.setCell ⟨bl p.id, i, none⟩ u) := Keep3.of_far (by decide) h0.row hfar (Nat.le_trans h.lowB (h.lowP p hp))
  refine h.turn hp hid hfar ⟨a, b, c, d, ?_, by rw [hS]; exact h0.hS.keep k, by rw [hI]; exact h0.hI.keep k, by rw [hP]; exact h0.hP.keep k, by rw [hM]; exact h0.hM.keep k⟩
  rw [heap_setCell_same w (bl p.id) i _ 68 u h0.row, hrow]
end
end Go.Proofs.YtmphnoabkmoafaaGreatDoor
