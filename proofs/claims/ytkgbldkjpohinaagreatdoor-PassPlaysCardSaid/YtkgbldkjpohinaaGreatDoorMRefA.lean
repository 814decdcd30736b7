/- How the reference's book lies in memory: rows of users and of failures; what the calls leave as it was. The reference's book: find and failed. The reference's book: put. The reference's book: set, strangers. -/
import Derived.Test.YtkgbldkjpohinaaGreatDoorMCnt
import Derived.Laws.AppendOwn
import Derived.Lib.Hide
import Derived.Test.YtkgbldkjpohinaaGreatDoorBookWrong
import Derived.Test.YtkgbldkjpohinaaGreatDoorLetters
import Derived.Test.YtkgbldkjpohinaaGreatDoorUnhex
import Derived.Deep.RegionWith
import Derived.Maps.RangeWalk
import Derived.Sort.Walk0
namespace Go.Proofs.YtkgbldkjpohinaaGreatDoor
open Go.RowKit Go.Maps
set_option linter.unusedVariables false
instance : Inhabited RU := ⟨⟨⟨#[]⟩, ⟨#[]⟩, ⟨#[]⟩, 0, 0⟩⟩
instance : Inhabited RF := ⟨⟨⟨#[]⟩, 0, 0⟩⟩
def uCells (u : RU) : List Value := [.string u.name, .string u.salt, .string u.hash, .int .i64 u.times, .int .i64 u.tag]
def fCells (f : RF) : List Value := [.string f.name, .int .i64 f.n, .int .i64 f.last]
def OwnU (w : World) (B : Nat) (v : Value) (l : List RU) : Prop := w.ownsRow B 61 5 v l.length (l.flatMap uCells)
def OwnF (w : World) (B : Nat) (v : Value) (l : List RF) : Prop := w.ownsRow B 67 3 v l.length (l.flatMap fCells)
theorem undU : Tryz.prog.underlying 48 = some (.slice 61) := by kernel_rfl
theorem undF : Tryz.prog.underlying 49 = some (.slice 67) := by kernel_rfl
theorem info61 : (Tryz.prog.info? 61).map (fun i => (i.zero, i.size, i.bytes)) = some (some (.agg #[.string ⟨#[]⟩, .string ⟨#[]⟩, .string ⟨#[]⟩, .int .i64 0, .int .i64 0]), 5, 64) := by kernel_rfl
theorem info67 : (Tryz.prog.info? 67).map (fun i => (i.zero, i.size, i.bytes)) = some (some (.agg #[.string ⟨#[]⟩, .int .i64 0, .int .i64 0]), 3, 32) := by kernel_rfl
theorem len_flat {α : Type} (f : α → List Value) (k : Nat) (hk : ∀ a, (f a).length = k) : ∀ l : List α, (l.flatMap f).length = l.length * k
  | [] => by simp
  | a :: r => by rw [List.flatMap_cons, List.length_append, hk, len_flat f k hk r, List.length_cons, Nat.add_mul]; omega
theorem flatMap_get {α : Type} (f : α → List Value) (k : Nat) (hk : ∀ a, (f a).length = k) : ∀ (l : List α) (i j : Nat), j < k → (hi : i < l.length) → (l.flatMap f)[i * k + j]? = (f l[i])[j]?
  | a :: r, 0, j, hj, _ => by
    rw [List.flatMap_cons, List.getElem?_append_left (by rw [hk]; omega)]
    simp
  | a :: r, i + 1, j, hj, hi => by
    have e : (i + 1) * k + j = k + (i * k + j) := by rw [Nat.add_mul]; omega
    rw [List.flatMap_cons, e, List.getElem?_append_right (by rw [hk]; omega), hk, Nat.add_sub_cancel_left]
    have := flatMap_get f k hk r i j hj (by simpa using hi)
    simpa using this
  | [], i, j, _, hi => by simp at hi
theorem ownU_row {w : World} {B : Nat} {v : Value} {l : List RU} (h : OwnU w B v l) {i : Nat} (hi : i < l.length) : ∃ g cap, v = .slice (some ⟨g, 0, none⟩) l.length cap ∧ B ≤ g ∧ l.length ≤ cap ∧ cap ≤ maxLen ∧ (∃ cur, w.heap[g]? = some (.cells cur 61 (0, 0))) ∧ ∀ j, j < 5 → w.cell? ⟨g, i * 5 + j, none⟩ = (uCells l[i])[j]? := by
  obtain ⟨h0, ⟨e, e2⟩ | ⟨g, cap, cur, e1, e2, e3, h1, h2, h3, h4⟩⟩ := h
  · omega
  · refine ⟨g, cap, e1, e2, h1, h2, ⟨cur, e3⟩, fun j hj => ?_⟩
    have hb : i * 5 + j < l.length * 5 := by omega
    have : (cur.toList.take (l.length * 5))[i * 5 + j]? = (l.flatMap uCells)[i * 5 + j]? := by rw [h4]
    rw [List.getElem?_take_of_lt hb, flatMap_get uCells 5 (fun _ => rfl) l i j hj hi] at this
    rw [cell_of_row w g _ cur 61 (0, 0) e3, ← this, Array.getElem?_toList]
theorem ownF_row {w : World} {B : Nat} {v : Value} {l : List RF} (h : OwnF w B v l) {i : Nat} (hi : i < l.length) : ∃ g cap, v = .slice (some ⟨g, 0, none⟩) l.length cap ∧ B ≤ g ∧ l.length ≤ cap ∧ cap ≤ maxLen ∧ (∃ cur, w.heap[g]? = some (.cells cur 67 (0, 0))) ∧ ∀ j, j < 3 → w.cell? ⟨g, i * 3 + j, none⟩ = (fCells l[i])[j]? := by
  obtain ⟨h0, ⟨e, e2⟩ | ⟨g, cap, cur, e1, e2, e3, h1, h2, h3, h4⟩⟩ := h
  · omega
  · refine ⟨g, cap, e1, e2, h1, h2, ⟨cur, e3⟩, fun j hj => ?_⟩
    have hb : i * 3 + j < l.length * 3 := by omega
    have : (cur.toList.take (l.length * 3))[i * 3 + j]? = (l.flatMap fCells)[i * 3 + j]? := by rw [h4]
    rw [List.getElem?_take_of_lt hb, flatMap_get fCells 3 (fun _ => rfl) l i j hj hi] at this
    rw [cell_of_row w g _ cur 67 (0, 0) e3, ← this, Array.getElem?_toList]
theorem ownU_shape {w : World} {B : Nat} {v : Value} {l : List RU} (h : OwnU w B v l) : ∃ ao cap, v = .slice ao l.length cap ∧ (l.length < 4611686018427387904 → True) := by
  obtain ⟨h0, ⟨e, e2⟩ | ⟨g, cap, cur, e1, _⟩⟩ := h
  · exact ⟨none, 0, by rw [e2]; exact e, fun _ => trivial⟩
  · exact ⟨_, _, e1, fun _ => trivial⟩
theorem ownF_shape {w : World} {B : Nat} {v : Value} {l : List RF} (h : OwnF w B v l) : ∃ ao cap, v = .slice ao l.length cap := by
  obtain ⟨h0, ⟨e, e2⟩ | ⟨g, cap, cur, e1, _⟩⟩ := h
  · exact ⟨none, 0, by rw [e2]; exact e⟩
  · exact ⟨_, _, e1⟩
/-- What leaves all but blocks of one kind as they were. -/
structure Fr (M : Obj → Prop) (w w' : World) : Prop where
  os : w'.os = w.os
  tape : w'.tape = w.tape
  output : w'.output = w.output
  size : w.heap.size ≤ w'.heap.size
  block : ∀ (k : Nat) (o : Obj), w.heap[k]? = some o → ¬ M o → w'.heap[k]? = some o
theorem Fr.refl (M : Obj → Prop) (w : World) : Fr M w w := ⟨rfl, rfl, rfl, Nat.le_refl _, fun _ _ h _ => h⟩
theorem Fr.trans {M : Obj → Prop} {a b c : World} (h : Fr M a b) (k : Fr M b c) : Fr M a c :=
  ⟨k.os.trans h.os, k.tape.trans h.tape, k.output.trans h.output, Nat.le_trans h.size k.size, fun i o hi hm => k.block i o (h.block i o hi hm) hm⟩
theorem Fr.of_below {M : Obj → Prop} {w w' : World} (h : Below w.heap.size w w') : Fr M w w' :=
  ⟨h.os, h.tape, h.output, h.size, fun i o hi _ => (h.block i (Array.getElem?_eq_some_iff.1 hi).1).trans hi⟩
theorem Fr.of_grown {M : Obj → Prop} {w w' : World} {r : Nat} (h : w.grownBy w' (some r)) (hr : ∀ o, w.heap[r]? = some o → M o) : Fr M w w' :=
  ⟨h.os, h.tape, h.output, h.size, fun i o hi hm => (h.block i (Array.getElem?_eq_some_iff.1 hi).1 (fun e => by cases e; exact hm (hr o hi))).trans hi⟩
theorem Fr.mono {M N : Obj → Prop} {w w' : World} (h : Fr M w w') (hs : ∀ o, M o → N o) : Fr N w w' := ⟨h.os, h.tape, h.output, h.size, fun i o hi hm => h.block i o hi (fun e => hm (hs o e))⟩
theorem Fr.cell {M : Obj → Prop} {w w' : World} (h : Fr M w w') {k i : Nat} {cs : Array Value} {t : TypeId} (hk : w.heap[k]? = some (.cells cs t (0, 0))) (hm : ¬ M (.cells cs t (0, 0))) : w'.cell? ⟨k, i, none⟩ = w.cell? ⟨k, i, none⟩ :=
  World.cell?_of_block ((h.block _ _ hk hm).trans hk.symm)
def MapM (o : Obj) : Prop := ∃ es c, o = .map es c
def RefM (o : Obj) : Prop := ∃ cs t, o = .cells cs t (0, 0) ∧ (t = 51 ∨ t = 61 ∨ t = 67)
theorem not_map_cells {cs : Array Value} {t : TypeId} {z : Nat × Nat} : ¬ MapM (.cells cs t z) := fun ⟨_, _, e⟩ => by cases e
theorem not_ref_cells {cs : Array Value} {t : TypeId} (h1 : t ≠ 51) (h2 : t ≠ 61) (h3 : t ≠ 67) : ¬ RefM (.cells cs t (0, 0)) := fun ⟨_, _, e, h⟩ => by cases e; rcases h with h | h | h <;> contradiction
theorem not_ref_map {es c} : ¬ RefM (.map es c) := fun ⟨_, _, e, _⟩ => by cases e
/-- The reference's book. -/
structure RefSt (B : Nat) (w : World) (p : Nat) (most wait : Int) (us : List RU) (fs : List RF) : Prop where
  at_ : ∃ vu vf, w.heap[p]? = some (.cells #[.int .i64 most, .int .i64 wait, vu, vf] 51 (0, 0)) ∧ OwnU w B vu us ∧ OwnF w B vf fs
  lo : B ≤ p
theorem own_keep {w w' : World} {B e s : Nat} {v : Value} {n : Nat} {xs : List Value} (h : w.ownsRow B e s v n xs) (hk : ∀ (k : Nat) (cs : Array Value), w.heap[k]? = some (Obj.cells cs e (0, 0)) → w'.heap[k]? = some (Obj.cells cs e (0, 0))) : w'.ownsRow B e s v n xs := by
  obtain ⟨h0, h1 | ⟨g, cap, cur, e1, e2, e3, r⟩⟩ := h
  · exact ⟨h0, .inl h1⟩
  · exact ⟨h0, .inr ⟨g, cap, cur, e1, e2, hk _ _ e3, r⟩⟩
theorem own_low {w : World} {B B' e s : Nat} {v : Value} {n : Nat} {xs : List Value} (h : w.ownsRow B e s v n xs) (hB : B' ≤ B) : w.ownsRow B' e s v n xs := by
  obtain ⟨h0, h1 | ⟨g, cap, cur, e1, e2, r⟩⟩ := h
  · exact ⟨h0, .inl h1⟩
  · exact ⟨h0, .inr ⟨g, cap, cur, e1, by omega, r⟩⟩
section
variable {B p : Nat} {w w' : World} {most wait : Int} {us : List RU} {fs : List RF}
theorem RefSt.keepM {M : Obj → Prop} (h : RefSt B w p most wait us fs) (hf : Fr M w w') (hm : ∀ cs t, ¬ M (.cells cs t (0, 0))) : RefSt B w' p most wait us fs := by
  obtain ⟨vu, vf, h1, h2, h3⟩ := h.at_
  exact ⟨⟨vu, vf, hf.block _ _ h1 (hm _ _), own_keep h2 fun k cs hk => hf.block _ _ hk (hm _ _), own_keep h3 fun k cs hk => hf.block _ _ hk (hm _ _)⟩, h.lo⟩
theorem RefSt.keep (h : RefSt B w p most wait us fs) (hb : Below w.heap.size w w') : RefSt B w' p most wait us fs := h.keepM (M := fun _ => False) (Fr.of_below hb) fun _ _ h => h
theorem RefSt.keepP (h : RefSt B w p most wait us fs) (hf : Fr MapM w w') : RefSt B w' p most wait us fs := h.keepM hf fun _ _ => not_map_cells
theorem RefSt.lt (h : RefSt B w p most wait us fs) : p < w.heap.size := by obtain ⟨vu, vf, h1, _⟩ := h.at_; exact (Array.getElem?_eq_some_iff.1 h1).1
theorem RefSt.base {B' : Nat} (h : RefSt B w p most wait us fs) (hB : B' ≤ B) : RefSt B' w p most wait us fs := by
  obtain ⟨vu, vf, h1, h2, h3⟩ := h.at_
  exact ⟨⟨vu, vf, h1, own_low h2 hB, own_low h3 hB⟩, Nat.le_trans hB h.lo⟩
end
section
variable {w : World} {ops : Array Oper} {rest : List Oper} {o : Oper} {a : Act} {Q : Exit → Act → World → Prop}
/-- 'append(l, u)' for users. -/
theorem wpList_append_u (hgd : o.guard = none) (s x : Operand) (ho : o.op = .call { callee := .builtin .append, args := #[s, x], argTypes := #[48, 48] })
    (B : Nat) (v : Value) (l : List RU) (hs : a.eval s = v) (hown : OwnU w B v l) (b i m c : Nat) (us : List RU) (hx : a.eval x = .slice (some ⟨b, i, none⟩) us.length c) (hu : ∀ j z, (us.flatMap uCells)[j]? = some z → w.cell? ⟨b, i + j, none⟩ = some z)
    (hl : l.length + us.length < 1000000000000) (hB : B ≤ w.heap.size)
    (h : ∀ v' w', OwnU w' B v' (l ++ us) → w.grownBy w' v.ownBlock → wpList Tryz.prog ops Q rest (a.put o.dst v') w') : wpList Tryz.prog ops Q (o :: rest) a w := by
  obtain ⟨n, hi, hz, hsz, hby⟩ := info_parts info61
  refine wpList_append_own w hgd s x 48 ho B 61 n _ 5 64 undU hi hz hsz hby rfl (by omega) v l.length (l.flatMap uCells) hs hown ⟨b, i, none⟩ us.length c (us.flatMap uCells) hx ?_ (fun j z hj => ?_) (fun y hy => ?_) (by unfold maxLen; omega) (by omega) hB (fun v' w' h1 h2 _ => h v' w' ?_ h2)
  · exact len_flat uCells 5 (fun _ => rfl) us
  · have e : (⟨b, i, none⟩ : Addr).add j = ⟨b, i + j, none⟩ := by unfold Addr.add; split <;> simp_all
    rw [e]; exact hu j z hj
  · obtain ⟨u, _, hy⟩ := List.mem_flatMap.1 hy
    simp only [uCells, List.mem_cons, List.not_mem_nil, or_false] at hy
    rcases hy with rfl | rfl | rfl | rfl | rfl <;> rfl
  · unfold OwnU
    rw [List.flatMap_append, List.length_append]
    exact h1
theorem wpList_append_f (hgd : o.guard = none) (s x : Operand) (ho : o.op = .call { callee := .builtin .append, args := #[s, x], argTypes := #[49, 49] })
    (B : Nat) (v : Value) (l : List RF) (hs : a.eval s = v) (hown : OwnF w B v l) (b i c : Nat) (us : List RF) (hx : a.eval x = .slice (some ⟨b, i, none⟩) us.length c) (hu : ∀ j z, (us.flatMap fCells)[j]? = some z → w.cell? ⟨b, i + j, none⟩ = some z)
    (hl : l.length + us.length < 1000000000000) (hB : B ≤ w.heap.size)
    (h : ∀ v' w', OwnF w' B v' (l ++ us) → w.grownBy w' v.ownBlock → wpList Tryz.prog ops Q rest (a.put o.dst v') w') : wpList Tryz.prog ops Q (o :: rest) a w := by
  obtain ⟨n, hi, hz, hsz, hby⟩ := info_parts info67
  refine wpList_append_own w hgd s x 49 ho B 67 n _ 3 32 undF hi hz hsz hby rfl (by omega) v l.length (l.flatMap fCells) hs hown ⟨b, i, none⟩ us.length c (us.flatMap fCells) hx ?_ (fun j z hj => ?_) (fun y hy => ?_) (by unfold maxLen; omega) (by omega) hB (fun v' w' h1 h2 _ => h v' w' ?_ h2)
  · exact len_flat fCells 3 (fun _ => rfl) us
  · have e : (⟨b, i, none⟩ : Addr).add j = ⟨b, i + j, none⟩ := by unfold Addr.add; split <;> simp_all
    rw [e]; exact hu j z hj
  · obtain ⟨u, _, hy⟩ := List.mem_flatMap.1 hy
    simp only [fCells, List.mem_cons, List.not_mem_nil, or_false] at hy
    rcases hy with rfl | rfl | rfl <;> rfl
  · unfold OwnF
    rw [List.flatMap_append, List.length_append]
    exact h1
end
end Go.Proofs.YtkgbldkjpohinaaGreatDoor
namespace Go.Proofs.YtkgbldkjpohinaaGreatDoor
open Go.RowKit Go.Maps
set_option linter.unusedVariables false
def FindAt {α : Type} (nm : α → ByteArray) (l : List α) (name : ByteArray) (r : Int) : Prop :=
  (∃ (i : Nat) (u : α), r = i ∧ l[i]? = some u ∧ nm u = name ∧ l.find? (fun u => decide (nm u = name)) = some u ∧ ∀ j, j < i → ∀ v, l[j]? = some v → nm v ≠ name) ∨ (r = -1 ∧ l.find? (fun u => decide (nm u = name)) = none)
theorem find_hit {α : Type} (nm : α → ByteArray) (l : List α) (name : ByteArray) (i : Nat) (hi : i < l.length) (hb : ∀ j (hj : j < l.length), j < i → nm l[j] ≠ name) (h : nm l[i] = name) : FindAt nm l name i := by
  refine .inl ⟨i, l[i], rfl, List.getElem?_eq_getElem hi, h, ?_, ?_⟩
  · rw [List.find?_eq_some_iff_getElem]
    exact ⟨by simp [h], i, hi, rfl, fun j hj => by simp [hb j (by omega) hj]⟩
  · intro j hj v hv
    obtain ⟨h1, rfl⟩ := List.getElem?_eq_some_iff.1 hv
    exact hb j h1 hj
theorem find_miss {α : Type} (nm : α → ByteArray) (l : List α) (name : ByteArray) (hb : ∀ j (hj : j < l.length), nm l[j] ≠ name) : FindAt nm l name (-1) := by
  refine .inr ⟨rfl, ?_⟩
  rw [List.find?_eq_none]
  intro x hx
  obtain ⟨j, hj, rfl⟩ := List.getElem_of_mem hx
  simp [hb j hj]
set_option maxRecDepth 100000 in
set_option maxHeartbeats 2000000 in
theorem r_find {B p : Nat} {w : World} {most wait : Int} {us : List RU} {fs : List RF} (h : RefSt B w p most wait us fs) (name : ByteArray) (hl : us.length < 1000000) :
    Calls Tryz.prog 19 #[.pointer (some ⟨p, 0, none⟩), .string name] w fun e w' => ∃ r : Int, e = .returned (.int .i64 r) ∧ FindAt RU.name us name r ∧ w' = w := by
  obtain ⟨vu, vf, h1, h2, h3⟩ := h.at_
  obtain ⟨ao, cap, rfl, _⟩ := ownU_shape h2
  have c2 : w.cell? ⟨p, 2, none⟩ = some (.slice ao us.length cap) := by rw [cell_of_row w p 2 _ 51 (0, 0) h1]; rfl
  have HU := Lib.hid h2
  clear h1 h2 h3 h
  go_enter Tryz.func19, Tryz.ntmps19
  go_wp2
  go_loopw [5] (fun i wr => ∃ k : Nat, i = .int .i64 k ∧ k ≤ us.length ∧ (∀ j (hj : j < us.length), j < k → us[j].name ≠ name) ∧ wr = w) (fun i _ => us.length - (intOf i).toNat)
  case atStart => exact ⟨0, rfl, by omega, fun _ _ h => by omega, rfl⟩
  case round =>
    obtain ⟨k, rfl, hk, hb, rfl⟩ := hrel
    have HB := Lib.hid hb
    clear hb
    by_cases hlt : k < us.length
    · obtain ⟨g, cap', hv, hBg, hcap, hmx, _, hc⟩ := ownU_row HU.out hlt
      obtain ⟨rfl, rfl⟩ : ao = some ⟨g, 0, none⟩ ∧ cap = cap' := by simpa using hv
      have hc0 := hc 0 (by omega)
      obtain ⟨u, hu⟩ : ∃ u, u = us[k] := ⟨_, rfl⟩
      rw [← hu] at hc0
      have hc1 : wr.cell? ⟨g, k * 5, none⟩ = some (.string u.name) := hc0
      have HX := Lib.hid hu
      clear hc hv hc0 hu
      have hd : decide ((k : Int) < us.length) = true := by simp; omega
      by_cases hq : u.name = name
      · have hqt : (u.name.toList == name.toList) = true := by rw [hq]; simp
        go_wp2
        go_ret
        exact ⟨k, rfl, find_hit RU.name us name k hlt HB.out (by rw [← HX.out]; exact hq), rfl⟩
      · have hqf : (u.name.toList == name.toList) = false := beq_false_of hq
        go_wp2
        go_roundw
        case rel =>
          refine ⟨k + 1, by go_num, by omega, fun j hj hjk => ?_, trivial⟩
          by_cases e : j = k
          · subst e; rw [← HX.out]; exact hq
          · exact HB.out j hj (by omega)
        case measure => show us.length - ((k : Int) + 1).toNat < us.length - (k : Int).toNat; omega
    · have hd : decide ((k : Int) < us.length) = false := by simp; omega
      go_wp2
      go_ret
      exact ⟨-1, rfl, find_miss RU.name us name (fun j hj => HB.out j hj (by omega)), rfl⟩
set_option maxRecDepth 100000 in
set_option maxHeartbeats 2000000 in
theorem r_failed {B p : Nat} {w : World} {most wait : Int} {us : List RU} {fs : List RF} (h : RefSt B w p most wait us fs) (name : ByteArray) (hl : fs.length < 1000000) :
    Calls Tryz.prog 23 #[.pointer (some ⟨p, 0, none⟩), .string name] w fun e w' => ∃ r : Int, e = .returned (.int .i64 r) ∧ FindAt RF.name fs name r ∧ w' = w := by
  obtain ⟨vu, vf, h1, h2, h3⟩ := h.at_
  obtain ⟨ao, cap, rfl⟩ := ownF_shape h3
  have c3 : w.cell? ⟨p, 3, none⟩ = some (.slice ao fs.length cap) := by rw [cell_of_row w p 3 _ 51 (0, 0) h1]; rfl
  have HU := Lib.hid h3
  clear h1 h2 h3 h
  go_enter Tryz.func23, Tryz.ntmps23
  go_wp2
  go_loopw [5] (fun i wr => ∃ k : Nat, i = .int .i64 k ∧ k ≤ fs.length ∧ (∀ j (hj : j < fs.length), j < k → fs[j].name ≠ name) ∧ wr = w) (fun i _ => fs.length - (intOf i).toNat)
  case atStart => exact ⟨0, rfl, by omega, fun _ _ h => by omega, rfl⟩
  case round =>
    obtain ⟨k, rfl, hk, hb, rfl⟩ := hrel
    have HB := Lib.hid hb
    clear hb
    by_cases hlt : k < fs.length
    · obtain ⟨g, cap', hv, hBg, hcap, hmx, _, hc⟩ := ownF_row HU.out hlt
      obtain ⟨rfl, rfl⟩ : ao = some ⟨g, 0, none⟩ ∧ cap = cap' := by simpa using hv
      have hc0 := hc 0 (by omega)
      obtain ⟨u, hu⟩ : ∃ u, u = fs[k] := ⟨_, rfl⟩
      rw [← hu] at hc0
      have hc1 : wr.cell? ⟨g, k * 3, none⟩ = some (.string u.name) := hc0
      have HX := Lib.hid hu
      clear hc hv hc0 hu
      have hd : decide ((k : Int) < fs.length) = true := by simp; omega
      by_cases hq : u.name = name
      · have hqt : (u.name.toList == name.toList) = true := by rw [hq]; simp
        go_wp2
        go_ret
        exact ⟨k, rfl, find_hit RF.name fs name k hlt HB.out (by rw [← HX.out]; exact hq), rfl⟩
      · have hqf : (u.name.toList == name.toList) = false := beq_false_of hq
        go_wp2
        go_roundw
        case rel =>
          refine ⟨k + 1, by go_num, by omega, fun j hj hjk => ?_, trivial⟩
          by_cases e : j = k
          · subst e; rw [← HX.out]; exact hq
          · exact HB.out j hj (by omega)
        case measure => show fs.length - ((k : Int) + 1).toNat < fs.length - (k : Int).toNat; omega
    · have hd : decide ((k : Int) < fs.length) = false := by simp; omega
      go_wp2
      go_ret
      exact ⟨-1, rfl, find_miss RF.name fs name (fun j hj => HB.out j hj (by omega)), rfl⟩
theorem bytesOf_at (s : ByteArray) (k : Nat) (hk : k < s.size) : (bytesOf s).getD k 0 = ((s[k]'hk).toNat : Int) := by
  simp [bytesOf, List.getD, hk]
  rfl
set_option maxRecDepth 100000 in
set_option maxHeartbeats 4000000 in
theorem r_word (s : ByteArray) (d : Bool) (w : World) (hs : s.size ≤ maxLen) :
    Calls Tryz.prog 18 #[.string s, .bool d] w fun e w' => e = .returned (.bool (decide (LettersP s d))) ∧ w' = w := by
  have hm : s.size ≤ 9223372036854775807 := hs
  obtain ⟨res, hres⟩ : ∃ r, r = decide (LettersP s d) := ⟨_, rfl⟩
  rw [← hres]
  have HR := Lib.hid hres
  clear hres hs
  go_enter Tryz.func18, Tryz.ntmps18
  go_wp2
  go_loopw [5] (fun i wr => ∃ k : Nat, i = .int .i64 k ∧ k ≤ s.size ∧ (∀ j (hj : j < s.size), j < k → okB d (s[j]'hj).toNat) ∧ wr = w) (fun i _ => s.size - (intOf i).toNat)
  case atStart => exact ⟨0, rfl, by omega, fun _ _ h => by omega, rfl⟩
  case round =>
    obtain ⟨k, rfl, hk, hb, rfl⟩ := hrel
    have HB := Lib.hid hb
    clear hb
    by_cases hlt : k < s.size
    · have hd : decide ((k : Int) < s.size) = true := by simp; omega
      obtain ⟨c, hc⟩ : ∃ c : Nat, c = (s[k]'hlt).toNat := ⟨_, rfl⟩
      have hix : (Instr.index 9 (.string s) (.int .i64 k)).run Tryz.prog wr = .ok (.int .u8 c) wr := by
        rw [run_index_byte wr und9 s k hlt, bytesOf_at s k hlt, hc]
      have HC := Lib.hid hc
      clear hc
      have hno : ¬ okB d c → res = false := fun h => by rw [HR.out]; exact decide_eq_false (fun e => h (by rw [HC.out]; exact e.1 k hlt))
      have HNO := Lib.hid hno
      clear hno
      have hgo : okB d c → ∀ j (hj : j < s.size), j < k + 1 → okB d (s[j]'hj).toNat := fun h j hj hjk => by
        by_cases e : j = k
        · subst e; rw [← HC.out]; exact h
        · exact HB.out j hj (by omega)
      have HGO := Lib.hid hgo
      clear hgo
      by_cases h1 : 97 ≤ c
      · have d1 : decide ((c : Int) < 97) = false := by simp; omega
        by_cases h2 : c ≤ 122
        · have d2 : decide ((c : Int) > 122) = false := by simp; omega
          go_wp2
          go_roundw
          case rel => exact ⟨k + 1, by go_num, by omega, HGO.out (.inl ⟨h1, h2⟩), trivial⟩
          case measure => show s.size - ((k : Int) + 1).toNat < s.size - (k : Int).toNat; omega
        · have d2 : decide ((c : Int) > 122) = true := by simp; omega
          have d3 : decide ((c : Int) < 48) = false := by simp; omega
          have d4 : decide ((c : Int) > 57) = true := by simp; omega
          have hf := HNO.out (by unfold okB; omega)
          subst hf
          cases d
          all_goals
            go_wp2
            go_ret
            exact ⟨rfl, rfl⟩
      · have d1 : decide ((c : Int) < 97) = true := by simp; omega
        by_cases h3 : 48 ≤ c ∧ c ≤ 57
        · have d3 : decide ((c : Int) < 48) = false := by simp; omega
          have d4 : decide ((c : Int) > 57) = false := by simp; omega
          cases d
          · have hf := HNO.out (by unfold okB; simp; omega)
            subst hf
            go_wp2
            go_ret
            exact ⟨rfl, rfl⟩
          · go_wp2
            go_roundw
            case rel => exact ⟨k + 1, by go_num, by omega, HGO.out (.inr ⟨rfl, h3⟩), trivial⟩
            case measure => show s.size - ((k : Int) + 1).toNat < s.size - (k : Int).toNat; omega
        · have hf := HNO.out (by unfold okB; omega)
          subst hf
          by_cases h4 : c < 48
          · have d3 : decide ((c : Int) < 48) = true := by simp; omega
            cases d
            all_goals
              go_wp2
              go_ret
              exact ⟨rfl, rfl⟩
          · have d3 : decide ((c : Int) < 48) = false := by simp; omega
            have d4 : decide ((c : Int) > 57) = true := by simp; omega
            cases d
            all_goals
              go_wp2
              go_ret
              exact ⟨rfl, rfl⟩
    · have hd : decide ((k : Int) < s.size) = false := by simp; omega
      have hres : res = (decide (1 ≤ s.size) && decide (s.size ≤ 16)) := by
        rw [HR.out]
        by_cases h1 : 1 ≤ s.size
        · by_cases h2 : s.size ≤ 16
          · rw [decide_eq_true h1, decide_eq_true h2]; exact decide_eq_true ⟨fun j hj => HB.out j hj (by omega), h1, h2⟩
          · rw [decide_eq_false h2, Bool.and_false]; exact decide_eq_false fun e => h2 e.2.2
        · rw [decide_eq_false h1, Bool.false_and]; exact decide_eq_false fun e => h1 e.2.1
      clear HR
      by_cases h1 : 1 ≤ s.size
      · have d1 : decide ((s.size : Int) ≥ 1) = true := by simp; omega
        by_cases h2 : s.size ≤ 16
        · have d2 : decide ((s.size : Int) ≤ 16) = true := by simp; omega
          rw [decide_eq_true h1, decide_eq_true h2] at hres
          have hr : res = true := hres
          subst hr
          clear hres
          go_wp2
          go_ret
          exact ⟨rfl, rfl⟩
        · have d2 : decide ((s.size : Int) ≤ 16) = false := by simp; omega
          rw [decide_eq_true h1, decide_eq_false h2] at hres
          have hr : res = false := hres
          subst hr
          clear hres
          go_wp2
          go_ret
          exact ⟨rfl, rfl⟩
      · have d1 : decide ((s.size : Int) ≥ 1) = false := by simp; omega
        rw [decide_eq_false h1] at hres
        have hr : res = false := hres
        subst hr
        clear hres
        go_wp2
        go_ret
        exact ⟨rfl, rfl⟩
end Go.Proofs.YtkgbldkjpohinaaGreatDoor
namespace Go.Proofs.YtkgbldkjpohinaaGreatDoor
open Go.RowKit Go.Maps
set_option linter.unusedVariables false
def uV (u : RU) : Value := .agg #[.string u.name, .string u.salt, .string u.hash, .int .i64 u.times, .int .i64 u.tag]
theorem putL_split (u : RU) : ∀ (us : List RU) (k : Nat), k ≤ us.length → (∀ j (hj : j < us.length), j < k → us[j].name.data.toList < u.name.data.toList) → (∀ hk : k < us.length, ¬ us[k].name.data.toList < u.name.data.toList) → putL u us = us.take k ++ u :: us.drop k
  | [], k, hk, _, _ => by
    have : k = 0 := by simpa using hk
    subst this; rfl
  | v :: r, 0, _, _, h2 => by
    have : ¬ v.name.data.toList < u.name.data.toList := h2 (by simp)
    unfold putL
    rw [if_neg this]; rfl
  | v :: r, k + 1, hk, h1, h2 => by
    have h0 : v.name.data.toList < u.name.data.toList := h1 0 (by simp) (by omega)
    unfold putL
    rw [if_pos h0, putL_split u r k (by simpa using hk) (fun j hj hjk => h1 (j + 1) (by simpa using hj) (by omega)) (fun hk2 => h2 (by simpa using hk2))]
    rfl
theorem less_eq (a b : ByteArray) : Op.bytesLess a.toList b.toList = decide (a.data.toList < b.data.toList) := by
  rw [bytesLess_eq, ByteArray.toList_eq, ByteArray.toList_eq]
theorem below_drawn {B : Nat} {w w' : World} (h : Below B w w') (n : Nat) : Below B w (w'.drewN n) := ⟨h.os, h.tape, h.output, h.size, h.block⟩
theorem uNew (W : World) (x : RU) (j : Nat) : (W.alloc (.cells #[.string x.name, .string x.salt, .string x.hash, .int .i64 x.times, .int .i64 x.tag] 61)).cell? ⟨W.heap.size, 0 + j, none⟩ = (uCells x)[j]? := by
  rw [Nat.zero_add, cell_of_row _ _ j _ 61 (0, 0) (heap_alloc_new _ _), ← Array.getElem?_toList]; rfl
theorem uCells_at {w : World} {b i : Nat} {x : RU} (h : ∀ j, j < 5 → w.cell? ⟨b, i + j, none⟩ = (uCells x)[j]?) : ∀ j z, ([x].flatMap uCells)[j]? = some z → w.cell? ⟨b, i + j, none⟩ = some z := by
  intro j z hj
  have e : [x].flatMap uCells = uCells x := by simp
  rw [e] at hj
  rw [h j (List.getElem?_eq_some_iff.1 hj).1, hj]
theorem drop_flat {α : Type} (f : α → List Value) (k : Nat) (hk : ∀ a, (f a).length = k) : ∀ (l : List α) (i : Nat), (l.drop i).flatMap f = (l.flatMap f).drop (i * k)
  | l, 0 => by simp
  | [], i + 1 => by simp
  | a :: r, i + 1 => by
    have e : (i + 1) * k = (f a).length + i * k := by rw [hk, Nat.add_mul]; omega
    rw [List.drop_succ_cons, drop_flat f k hk r i, List.flatMap_cons, e, List.drop_append, List.drop_eq_nil_of_le (show (f a).length ≤ (f a).length + i * k by omega), List.nil_append, Nat.add_sub_cancel_left]
theorem drop_cells {w : World} {B g n cap k : Nat} {l : List RU} (h : OwnU w B (.slice (some ⟨g, 0, none⟩) n cap) l) : ∀ j z, ((l.drop k).flatMap uCells)[j]? = some z → w.cell? ⟨g, k * 5 + j, none⟩ = some z := by
  intro j z hj
  rw [drop_flat uCells 5 (fun _ => rfl), List.getElem?_drop] at hj
  have := World.ownsRow.cells h (g := g) rfl (k * 5 + j) z hj
  have e : (⟨g, 0, none⟩ : Addr).add (k * 5 + j) = ⟨g, k * 5 + j, none⟩ := by unfold Addr.add; split <;> simp_all
  rwa [e] at this
theorem set_cell_fr {w w7 : World} {p i : Nat} {cs : Array Value} {t : TypeId} (b7 : Below w.heap.size w w7) (hp : w.heap[p]? = some (.cells cs t (0, 0))) (hm : RefM (.cells cs t (0, 0))) (v : Value) : Fr RefM w (w7.setCell ⟨p, i, none⟩ v) := by
  refine (Fr.of_below b7).trans (Fr.of_grown (r := p) ⟨rfl, rfl, rfl, by simp, fun k _ hk => heap_setCell_other w7 ⟨p, i, none⟩ k v (fun e => hk (by simp at e; rw [e]))⟩ fun o ho => ?_)
  have h7 := (b7.block p (Array.getElem?_eq_some_iff.1 hp).1).trans hp
  rw [h7] at ho
  cases ho
  exact hm
theorem own_set {w : World} {B e s p i t : Nat} {v : Value} {n : Nat} {xs : List Value} {cs : Array Value} (h : w.ownsRow B e s v n xs) (hp : w.heap[p]? = some (.cells cs t (0, 0))) (ht : t ≠ e) (u : Value) : (w.setCell ⟨p, i, none⟩ u).ownsRow B e s v n xs := by
  refine own_keep h fun k ds hk => ?_
  rw [heap_setCell_other w ⟨p, i, none⟩ k u (fun e2 => ?_)]
  · exact hk
  · have e3 : k = p := by simpa using e2
    subst e3
    rw [hp] at hk
    cases hk
    exact ht rfl
theorem put_end {B p : Nat} {w w7 : World} {most wait : Int} {us us' : List RU} {fs : List RF} (h : RefSt B w p most wait us fs) (b7 : Below w.heap.size w w7) {v7 : Value} (o7 : OwnU w7 B v7 us') :
    RefSt B (w7.setCell ⟨p, 2, none⟩ v7) p most wait us' fs ∧ Fr RefM w (w7.setCell ⟨p, 2, none⟩ v7) ∧ Below B w (w7.setCell ⟨p, 2, none⟩ v7) := by
  obtain ⟨vu, vf, h1, h2, h3⟩ := h.at_
  have h7 := (b7.block p (Array.getElem?_eq_some_iff.1 h1).1).trans h1
  obtain ⟨_, vf2, k1, _, k3⟩ := (h.keep b7).at_
  rw [h7] at k1
  have ev : vf = vf2 := (by simpa using k1 : _ ∧ _).2
  subst ev
  refine ⟨⟨⟨v7, vf, ?_, own_set o7 h7 (by decide) _, own_set k3 h7 (by decide) _⟩, h.lo⟩, set_cell_fr b7 h1 ⟨_, _, rfl, .inl rfl⟩ _, (b7.mono (by have := h.lo; have := h.lt; omega)).setCell (p := ⟨p, 2, none⟩) h.lo _⟩
  rw [heap_setCell_same w7 p 2 _ 51 _ h7]; rfl
theorem set_end {B p : Nat} {w w7 : World} {most wait : Int} {us : List RU} {fs fs' : List RF} (h : RefSt B w p most wait us fs) (b7 : Below w.heap.size w w7) {v7 : Value} (o7 : OwnF w7 B v7 fs') :
    RefSt B (w7.setCell ⟨p, 3, none⟩ v7) p most wait us fs' ∧ Fr RefM w (w7.setCell ⟨p, 3, none⟩ v7) ∧ Below B w (w7.setCell ⟨p, 3, none⟩ v7) := by
  obtain ⟨vu, vf, h1, h2, h3⟩ := h.at_
  have h7 := (b7.block p (Array.getElem?_eq_some_iff.1 h1).1).trans h1
  obtain ⟨vu2, _, k1, k2, _⟩ := (h.keep b7).at_
  rw [h7] at k1
  have ev : vu = vu2 := (by simpa using k1 : _ ∧ _).1
  subst ev
  refine ⟨⟨⟨vu, v7, ?_, own_set k2 h7 (by decide) _, own_set o7 h7 (by decide) _⟩, h.lo⟩, set_cell_fr b7 h1 ⟨_, _, rfl, .inl rfl⟩ _, (b7.mono (by have := h.lo; have := h.lt; omega)).setCell (p := ⟨p, 3, none⟩) h.lo _⟩
  rw [heap_setCell_same w7 p 3 _ 51 _ h7]; rfl
set_option maxRecDepth 100000 in
set_option maxHeartbeats 4000000 in
theorem r_put {B p : Nat} {w : World} {most wait : Int} {us : List RU} {fs : List RF} (h : RefSt B w p most wait us fs) (u : RU) (hl : us.length < 1000000) :
    Calls Tryz.prog 20 #[.pointer (some ⟨p, 0, none⟩), uV u] w fun e w' => (∃ v, e = .returned v) ∧ RefSt B w' p most wait (putL u us) fs ∧ Fr RefM w w' ∧ Below B w w' := by
  obtain ⟨vu, vf, h1, h2, h3⟩ := h.at_
  obtain ⟨ao, cap, rfl, _⟩ := ownU_shape h2
  have hplt := h.lt
  have hlo := h.lo
  have HST := Lib.hid h
  have HU := Lib.hid h2
  have HP := Lib.hid h1
  clear h1 h2 h3 h
  unfold uV
  go_enter Tryz.func20, Tryz.ntmps20
  go_wp2
  obtain ⟨W, hW⟩ : ∃ W, W = w.alloc (.cells #[.string u.name, .string u.salt, .string u.hash, .int .i64 u.times, .int .i64 u.tag] 61) := ⟨_, rfl⟩
  have hbx : W.heap[w.heap.size]? = some (.cells #[.string u.name, .string u.salt, .string u.hash, .int .i64 u.times, .int .i64 u.tag] 61 (0, 0)) := by rw [hW]; exact heap_alloc_new _ _
  have hWb : Below w.heap.size w W := by rw [hW]; exact (Below.refl _ _).alloc (Nat.le_refl _) _
  rw [← hW]
  have HBX := Lib.hid hbx
  have HWB := Lib.hid hWb
  clear hbx hWb hW
  go_loopw [4, 5] (fun o i wr => ∃ k : Nat, i = .int .i64 k ∧ k ≤ us.length ∧ (∀ j (hj : j < us.length), j < k → us[j].name.data.toList < u.name.data.toList) ∧ OwnU wr W.heap.size o (us.take k) ∧ Below W.heap.size W wr) (fun _ i _ => us.length - (intOf i).toNat)
  case atStart => exact ⟨0, rfl, by omega, fun _ _ h => by omega, World.ownsRow_nil _ _ _ _, Below.refl _ _⟩
  case round =>
    obtain ⟨k, rfl, hk, hb, ho, hbw⟩ := hrel
    have HB := Lib.hid hb
    have HO := Lib.hid ho
    have HBW := Lib.hid hbw
    clear hb ho hbw
    have c2 : wr.cell? ⟨p, 2, none⟩ = some (.slice ao us.length cap) := by
      rw [(HWB.out.trans (HBW.out.mono HWB.out.size)).cell (p := ⟨p, 2, none⟩) hplt, cell_of_row w p 2 _ 51 (0, 0) HP.out]; rfl
    have hn : ∀ j, j < 5 → wr.cell? ⟨w.heap.size, 0 + j, none⟩ = (uCells u)[j]? := fun j hj => by
      rw [Nat.zero_add, HBW.out.cell (p := ⟨w.heap.size, j, none⟩) (Array.getElem?_eq_some_iff.1 HBX.out).1, cell_of_row W _ j _ 61 (0, 0) HBX.out, ← Array.getElem?_toList]; rfl
    have n0 : wr.cell? ⟨w.heap.size, 0, none⟩ = some (.string u.name) := hn 0 (by omega)
    have n1 : wr.cell? ⟨w.heap.size, 1, none⟩ = some (.string u.salt) := hn 1 (by omega)
    have n2 : wr.cell? ⟨w.heap.size, 2, none⟩ = some (.string u.hash) := hn 2 (by omega)
    have n3 : wr.cell? ⟨w.heap.size, 3, none⟩ = some (.int .i64 u.times) := hn 3 (by omega)
    have n4 : wr.cell? ⟨w.heap.size, 4, none⟩ = some (.int .i64 u.tag) := hn 4 (by omega)
    have HN := Lib.hid hn
    clear hn
    have hws := HBW.out.size
    have hws2 := HWB.out.size
    obtain ⟨ao4, cap4, hv4, _⟩ := ownU_shape HO.out
    rw [List.length_take, Nat.min_eq_left hk] at hv4
    subst hv4
    have hob : ∀ i, (Value.slice ao4 k cap4).ownBlock = some i → W.heap.size ≤ i := fun i hi => (World.ownsRow.lt HO.out i hi).1
    have HOB := Lib.hid hob
    clear hob
    by_cases hlt : k < us.length
    · obtain ⟨g, cap', hv, hBg, hcap, hmx, ⟨cur, hg⟩, hc⟩ := ownU_row HU.out hlt
      obtain ⟨rfl, rfl⟩ : ao = some ⟨g, 0, none⟩ ∧ cap = cap' := by simpa using hv
      obtain ⟨x, hx⟩ : ∃ x, x = us[k] := ⟨_, rfl⟩
      rw [← hx] at hc
      have hcw : ∀ j, j < 5 → wr.cell? ⟨g, k * 5 + j, none⟩ = (uCells x)[j]? := fun j hj => by
        rw [← hc j hj]
        exact (HWB.out.trans (HBW.out.mono HWB.out.size)).cell (p := ⟨g, k * 5 + j, none⟩) (Array.getElem?_eq_some_iff.1 hg).1
      have hc0 : wr.cell? ⟨g, k * 5, none⟩ = some (.string x.name) := hcw 0 (by omega)
      have hc1 : wr.cell? ⟨g, k * 5 + 1, none⟩ = some (.string x.salt) := hcw 1 (by omega)
      have hc2 : wr.cell? ⟨g, k * 5 + 2, none⟩ = some (.string x.hash) := hcw 2 (by omega)
      have hc3 : wr.cell? ⟨g, k * 5 + 3, none⟩ = some (.int .i64 x.times) := hcw 3 (by omega)
      have hc4 : wr.cell? ⟨g, k * 5 + 4, none⟩ = some (.int .i64 x.tag) := hcw 4 (by omega)
      have HX := Lib.hid hx
      clear hc hv hx hcw
      have hd : decide ((k : Int) < us.length) = true := by simp; omega
      by_cases hless : x.name.data.toList < u.name.data.toList
      · have hle : Op.bytesLess x.name.toList u.name.toList = true := by rw [less_eq]; exact decide_eq_true hless
        have HL := Lib.hid hless
        clear hless
        go_wp2
        go_quiet (fail)
        go_wp2_with ((with_reducible show wpList _ _ _ (⟨some 35, _, _, _, _, _⟩ :: _) _ _); go_must (refine wpList_append_u rfl _ _ rfl W.heap.size (.slice ao4 k cap4) (us.take k) rfl (World.ownsRow.alloc HO.out _) wr.heap.size 0 1 1 [x] rfl (uCells_at (fun j hj => uNew (wr.drewN _) x j)) (by rw [List.length_take]; simp; omega) (by simp; omega) ?_; intro v6 w6 o6 g6; simp only [Act.put, List.setIfInBounds_toArray, List.set_cons_zero, List.set_cons_succ]))
        go_roundw
        case rel =>
          refine ⟨k + 1, by go_num, by omega, fun j hj hjk => ?_, ?_, ?_⟩
          · by_cases e : j = k
            · subst e; rw [← HX.out]; exact HL.out
            · exact HB.out j hj (by omega)
          · rw [List.take_succ_eq_append_getElem hlt, ← HX.out]; exact o6
          · exact ((below_drawn HBW.out _).alloc hws _).grown g6 (by simp; omega) HOB.out
        case measure => show us.length - ((k : Int) + 1).toNat < us.length - (k : Int).toNat; omega
      · have hle : Op.bytesLess x.name.toList u.name.toList = false := by rw [less_eq]; exact decide_eq_false hless
        have HL := Lib.hid hless
        clear hless
        go_wp2
        go_quiet (fail)
        go_wp2_with (first
          | ((with_reducible show wpList _ _ _ (⟨some 41, _, _, _, _, _⟩ :: _) _ _); go_must (refine wpList_append_u rfl _ _ rfl W.heap.size (.slice ao4 k cap4) (us.take k) rfl (World.ownsRow.alloc HO.out _) wr.heap.size 0 1 1 [u] rfl (uCells_at (fun j hj => uNew (wr.drewN _) u j)) (by rw [List.length_take]; simp; omega) (by simp; omega) ?_; intro v6 w6 o6 g6; have b6 := ((below_drawn HBW.out _).alloc hws _).grown g6 (by simp; omega) HOB.out; have c6 : w6.cell? ⟨p, 2, none⟩ = some (.slice (some ⟨g, 0, none⟩) us.length cap) := (by rw [b6.cell (p := ⟨p, 2, none⟩) (by simp; omega), ← HBW.out.cell (p := ⟨p, 2, none⟩) (by simp; omega)]; exact c2); simp only [Act.put, List.setIfInBounds_toArray, List.set_cons_zero, List.set_cons_succ]))
          | ((with_reducible show wpList _ _ _ (⟨some 50, _, _, _, _, _⟩ :: _) _ _); go_must (refine wpList_append_u rfl _ _ rfl W.heap.size v6 (us.take k ++ [u]) rfl o6 g (k * 5) 0 (cap - k) (us.drop k) (by rw [List.length_drop]; rfl) (drop_cells (k := k) (own_keep HU.out fun i cs hi => ((HWB.out.trans (b6.mono HWB.out.size)).block i (Array.getElem?_eq_some_iff.1 hi).1).trans hi)) (by simp; omega) (by have := b6.size; omega) ?_; intro v7 w7 o7 g7; have b7 := b6.grown g7 b6.size (fun i hi => (World.ownsRow.lt o6 i hi).1); obtain ⟨ao7, cap7, hv7, _⟩ := ownU_shape o7; have hn7 : (us.take k ++ [u] ++ us.drop k).length = us.length + 1 := (by simp; omega); rw [hn7] at hv7; subst hv7; have h7 := ((HWB.out.trans (b7.mono HWB.out.size)).block p hplt).trans HP.out; have c7 : w7.cell? ⟨p, 2, none⟩ = some (.slice (some ⟨g, 0, none⟩) us.length cap) := (by rw [cell_of_row w7 p 2 _ 51 (0, 0) h7]; rfl); have f7 : w7.frozen? ⟨p, 2, none⟩ = false := frozen_of_row w7 p 2 _ 51 h7; simp only [Act.put, List.setIfInBounds_toArray, List.set_cons_zero, List.set_cons_succ])))
        refine bodyPost_end (results_none rfl _ _ _) rfl ?_
        refine ⟨⟨_, rfl⟩, put_end HST.out (HWB.out.trans (b7.mono HWB.out.size)) (v7 := _) ?_⟩
        rw [putL_split u us k hk HB.out (fun hk2 => by rw [← HX.out]; exact HL.out)]
        have o8 : OwnU w7 B _ (us.take k ++ [u] ++ us.drop k) := own_low o7 (show B ≤ W.heap.size by omega)
        have e : us.take k ++ [u] ++ us.drop k = us.take k ++ u :: us.drop k := by simp
        rw [e] at o8
        exact o8
    · have hd : decide ((k : Int) < us.length) = false := by simp; omega
      rcases HU.out.2 with ⟨hv, hz⟩ | ⟨g, cap', cur, hv, hBg, hg, hcap, hmx, hcs, htk⟩
      · obtain ⟨rfl, hn, rfl⟩ : ao = none ∧ us.length = 0 ∧ cap = 0 := by simpa using hv
        have hus : us = [] := List.length_eq_zero_iff.1 hn
        subst hus
        obtain rfl : k = 0 := by simpa using hk
        clear hv hz hn
        go_wp2
        go_quiet (fail)
        go_wp2_with (first
          | ((with_reducible show wpList _ _ _ (⟨some 41, _, _, _, _, _⟩ :: _) _ _); go_must (refine wpList_append_u rfl _ _ rfl W.heap.size (.slice ao4 0 cap4) [] rfl (World.ownsRow.alloc HO.out _) wr.heap.size 0 1 1 [u] rfl (uCells_at (fun j hj => uNew (wr.drewN _) u j)) (by simp) (by simp; omega) ?_; intro v6 w6 o6 g6; have b6 := ((below_drawn HBW.out _).alloc hws _).grown g6 (by simp; omega) HOB.out; obtain ⟨g7, cap7, hv6, hg7, hc7, hm7, _, _⟩ := ownU_row o6 (i := 0) (by simp); simp only [List.nil_append, List.length_singleton] at hv6 hc7; subst hv6; have h7 := ((HWB.out.trans (b6.mono HWB.out.size)).block p hplt).trans HP.out; have c7 : w6.cell? ⟨p, 2, none⟩ = some (.slice none 0 0) := (by rw [cell_of_row w6 p 2 _ 51 (0, 0) h7]; rfl); have f7 : w6.frozen? ⟨p, 2, none⟩ = false := frozen_of_row w6 p 2 _ 51 h7; simp only [Act.put, List.setIfInBounds_toArray, List.set_cons_zero, List.set_cons_succ])))
        refine bodyPost_end (results_none rfl _ _ _) rfl ?_
        refine ⟨⟨_, rfl⟩, put_end HST.out (HWB.out.trans (b6.mono HWB.out.size)) (v7 := _) ?_⟩
        have o8 : OwnU w6 B _ ([] ++ [u]) := own_low o6 (show B ≤ W.heap.size by omega)
        exact o8
      · obtain ⟨rfl, rfl⟩ : ao = some ⟨g, 0, none⟩ ∧ cap = cap' := by simpa using hv
        clear hv htk hcs
        by_cases hm : cap = k
        · subst hm
          have hz0 : us.length - cap = 0 := by omega
          have HZ := Lib.hid hz0
          clear hz0
          go_wp2
          go_quiet (fail)
          go_wp2_with (first
            | ((with_reducible show wpList _ _ _ (⟨some 41, _, _, _, _, _⟩ :: _) _ _); go_must (refine wpList_append_u rfl _ _ rfl W.heap.size (.slice ao4 cap cap4) (us.take cap) rfl (World.ownsRow.alloc HO.out _) wr.heap.size 0 1 1 [u] rfl (uCells_at (fun j hj => uNew (wr.drewN _) u j)) (by rw [List.length_take]; simp; omega) (by simp; omega) ?_; intro v6 w6 o6 g6; have b6 := ((below_drawn HBW.out _).alloc hws _).grown g6 (by simp; omega) HOB.out; have c6 : w6.cell? ⟨p, 2, none⟩ = some (.slice (some ⟨g, 0, none⟩) us.length cap) := (by rw [b6.cell (p := ⟨p, 2, none⟩) (by simp; omega), ← HBW.out.cell (p := ⟨p, 2, none⟩) (by simp; omega)]; exact c2); simp only [Act.put, List.setIfInBounds_toArray, List.set_cons_zero, List.set_cons_succ]))
            | ((with_reducible show wpList _ _ _ (⟨some 50, _, _, _, _, _⟩ :: _) _ _); go_must (refine wpList_append_u rfl _ _ rfl W.heap.size v6 (us.take cap ++ [u]) rfl o6 g 0 0 0 (us.drop cap) (by rw [List.length_drop, HZ.out]; rfl) (fun j z hj => by rw [List.drop_eq_nil_of_le (by omega)] at hj; simp at hj) (by simp; omega) (by have := b6.size; omega) ?_; intro v7 w7 o7 g7; have b7 := b6.grown g7 b6.size (fun i hi => (World.ownsRow.lt o6 i hi).1); obtain ⟨ao7, cap7, hv7, _⟩ := ownU_shape o7; have hn7 : (us.take cap ++ [u] ++ us.drop cap).length = us.length + 1 := (by simp; omega); rw [hn7] at hv7; subst hv7; have h7 := ((HWB.out.trans (b7.mono HWB.out.size)).block p hplt).trans HP.out; have c7 : w7.cell? ⟨p, 2, none⟩ = some (.slice (some ⟨g, 0, none⟩) us.length cap) := (by rw [cell_of_row w7 p 2 _ 51 (0, 0) h7]; rfl); have f7 : w7.frozen? ⟨p, 2, none⟩ = false := frozen_of_row w7 p 2 _ 51 h7; simp only [Act.put, List.setIfInBounds_toArray, List.set_cons_zero, List.set_cons_succ])))
          refine bodyPost_end (results_none rfl _ _ _) rfl ?_
          refine ⟨⟨_, rfl⟩, put_end HST.out (HWB.out.trans (b7.mono HWB.out.size)) (v7 := _) ?_⟩
          rw [putL_split u us cap hk HB.out (fun hk2 => by omega)]
          have o8 : OwnU w7 B _ (us.take cap ++ [u] ++ us.drop cap) := own_low o7 (show B ≤ W.heap.size by omega)
          have e : us.take cap ++ [u] ++ us.drop cap = us.take cap ++ u :: us.drop cap := by simp
          rw [e] at o8
          exact o8
        · go_wp2
          go_quiet (fail)
          go_wp2_with (first
            | ((with_reducible show wpList _ _ _ (⟨some 41, _, _, _, _, _⟩ :: _) _ _); go_must (refine wpList_append_u rfl _ _ rfl W.heap.size (.slice ao4 k cap4) (us.take k) rfl (World.ownsRow.alloc HO.out _) wr.heap.size 0 1 1 [u] rfl (uCells_at (fun j hj => uNew (wr.drewN _) u j)) (by rw [List.length_take]; simp; omega) (by simp; omega) ?_; intro v6 w6 o6 g6; have b6 := ((below_drawn HBW.out _).alloc hws _).grown g6 (by simp; omega) HOB.out; have c6 : w6.cell? ⟨p, 2, none⟩ = some (.slice (some ⟨g, 0, none⟩) us.length cap) := (by rw [b6.cell (p := ⟨p, 2, none⟩) (by simp; omega), ← HBW.out.cell (p := ⟨p, 2, none⟩) (by simp; omega)]; exact c2); simp only [Act.put, List.setIfInBounds_toArray, List.set_cons_zero, List.set_cons_succ]))
            | ((with_reducible show wpList _ _ _ (⟨some 50, _, _, _, _, _⟩ :: _) _ _); go_must (refine wpList_append_u rfl _ _ rfl W.heap.size v6 (us.take k ++ [u]) rfl o6 g (k * 5) 0 (cap - k) (us.drop k) (by rw [List.length_drop]; rfl) (drop_cells (k := k) (own_keep HU.out fun i cs hi => ((HWB.out.trans (b6.mono HWB.out.size)).block i (Array.getElem?_eq_some_iff.1 hi).1).trans hi)) (by simp; omega) (by have := b6.size; omega) ?_; intro v7 w7 o7 g7; have b7 := b6.grown g7 b6.size (fun i hi => (World.ownsRow.lt o6 i hi).1); obtain ⟨ao7, cap7, hv7, _⟩ := ownU_shape o7; have hn7 : (us.take k ++ [u] ++ us.drop k).length = us.length + 1 := (by simp; omega); rw [hn7] at hv7; subst hv7; have h7 := ((HWB.out.trans (b7.mono HWB.out.size)).block p hplt).trans HP.out; have c7 : w7.cell? ⟨p, 2, none⟩ = some (.slice (some ⟨g, 0, none⟩) us.length cap) := (by rw [cell_of_row w7 p 2 _ 51 (0, 0) h7]; rfl); have f7 : w7.frozen? ⟨p, 2, none⟩ = false := frozen_of_row w7 p 2 _ 51 h7; simp only [Act.put, List.setIfInBounds_toArray, List.set_cons_zero, List.set_cons_succ])))
          refine bodyPost_end (results_none rfl _ _ _) rfl ?_
          refine ⟨⟨_, rfl⟩, put_end HST.out (HWB.out.trans (b7.mono HWB.out.size)) (v7 := _) ?_⟩
          rw [putL_split u us k hk HB.out (fun hk2 => by omega)]
          have o8 : OwnU w7 B _ (us.take k ++ [u] ++ us.drop k) := own_low o7 (show B ≤ W.heap.size by omega)
          have e : us.take k ++ [u] ++ us.drop k = us.take k ++ u :: us.drop k := by simp
          rw [e] at o8
          exact o8
end Go.Proofs.YtkgbldkjpohinaaGreatDoor
namespace Go.Proofs.YtkgbldkjpohinaaGreatDoor
open Go.RowKit Go.Maps
set_option linter.unusedVariables false
theorem fNew (W : World) (x : RF) (j : Nat) : (W.alloc (.cells #[.string x.name, .int .i64 x.n, .int .i64 x.last] 67)).cell? ⟨W.heap.size, 0 + j, none⟩ = (fCells x)[j]? := by
  rw [Nat.zero_add, cell_of_row _ _ j _ 67 (0, 0) (heap_alloc_new _ _), ← Array.getElem?_toList]; rfl
theorem fCells_at {w : World} {b i : Nat} {x : RF} (h : ∀ j, j < 3 → w.cell? ⟨b, i + j, none⟩ = (fCells x)[j]?) : ∀ j z, ([x].flatMap fCells)[j]? = some z → w.cell? ⟨b, i + j, none⟩ = some z := by
  intro j z hj
  have e : [x].flatMap fCells = fCells x := by simp
  rw [e] at hj
  rw [h j (List.getElem?_eq_some_iff.1 hj).1, hj]
def keepF (fs : List RF) (name : ByteArray) (k : Nat) : List RF := (fs.take k).filter fun f => !decide (f.name = name)
theorem keepF_hit {fs : List RF} {name : ByteArray} {k : Nat} (hk : k < fs.length) (h : fs[k].name = name) : keepF fs name (k + 1) = keepF fs name k := by
  unfold keepF
  rw [List.take_succ_eq_append_getElem hk, List.filter_append]
  simp [h]
theorem keepF_miss {fs : List RF} {name : ByteArray} {k : Nat} (hk : k < fs.length) (h : fs[k].name ≠ name) : keepF fs name (k + 1) = keepF fs name k ++ [fs[k]] := by
  unfold keepF
  rw [List.take_succ_eq_append_getElem hk, List.filter_append]
  simp [h]
theorem keepF_len (fs : List RF) (name : ByteArray) (k : Nat) : (keepF fs name k).length ≤ fs.length := by
  unfold keepF
  exact Nat.le_trans (List.length_filter_le _ _) (by rw [List.length_take]; omega)
theorem keepF_all (fs : List RF) (name : ByteArray) : keepF fs name fs.length = fs.filter fun f => !decide (f.name = name) := by
  unfold keepF; rw [List.take_length]
set_option maxRecDepth 100000 in
set_option maxHeartbeats 4000000 in
theorem r_set {B p : Nat} {w : World} {most wait : Int} {us : List RU} {fs : List RF} (h : RefSt B w p most wait us fs) (name : ByteArray) (n now : Int) (hl : fs.length < 1000000) :
    Calls Tryz.prog 24 #[.pointer (some ⟨p, 0, none⟩), .string name, .int .i64 n, .int .i64 now] w fun e w' => (∃ v, e = .returned v) ∧ RefSt B w' p most wait us (setL fs name n now) ∧ Fr RefM w w' ∧ Below B w w' := by
  obtain ⟨vu, vf, h1, h2, h3⟩ := h.at_
  obtain ⟨ao, cap, rfl⟩ := ownF_shape h3
  have hplt := h.lt
  have hlo := h.lo
  have HST := Lib.hid h
  have HU := Lib.hid h3
  have HP := Lib.hid h1
  clear h1 h2 h3 h
  go_enter Tryz.func24, Tryz.ntmps24
  go_wp2
  go_loopw [8, 9] (fun o i wr => ∃ k : Nat, i = .int .i64 k ∧ k ≤ fs.length ∧ OwnF wr w.heap.size o (keepF fs name k) ∧ Below w.heap.size w wr) (fun _ i _ => fs.length - (intOf i).toNat)
  case atStart => exact ⟨0, rfl, by omega, World.ownsRow_nil _ _ _ _, Below.refl _ _⟩
  case round =>
    obtain ⟨k, rfl, hk, ho, hbw⟩ := hrel
    have HO := Lib.hid ho
    have HBW := Lib.hid hbw
    clear ho hbw
    have c2 : wr.cell? ⟨p, 3, none⟩ = some (.slice ao fs.length cap) := by
      rw [HBW.out.cell (p := ⟨p, 3, none⟩) hplt, cell_of_row w p 3 _ 51 (0, 0) HP.out]; rfl
    have hws := HBW.out.size
    have hkl := keepF_len fs name k
    obtain ⟨ao4, cap4, hv4⟩ := ownF_shape HO.out
    subst hv4
    obtain ⟨K, hK⟩ : ∃ K, K = keepF fs name k := ⟨_, rfl⟩
    rw [← hK] at HO hkl ⊢
    have HK := Lib.hid hK
    clear hK
    have hob : ∀ i, (Value.slice ao4 K.length cap4).ownBlock = some i → w.heap.size ≤ i := fun i hi => (World.ownsRow.lt HO.out i hi).1
    have HOB := Lib.hid hob
    clear hob
    by_cases hlt : k < fs.length
    · obtain ⟨g, cap', hv, hBg, hcap, hmx, ⟨cur, hg⟩, hc⟩ := ownF_row HU.out hlt
      obtain ⟨rfl, rfl⟩ : ao = some ⟨g, 0, none⟩ ∧ cap = cap' := by simpa using hv
      obtain ⟨x, hx⟩ : ∃ x, x = fs[k] := ⟨_, rfl⟩
      rw [← hx] at hc
      have hcw : ∀ j, j < 3 → wr.cell? ⟨g, k * 3 + j, none⟩ = (fCells x)[j]? := fun j hj => by
        rw [← hc j hj]
        exact HBW.out.cell (p := ⟨g, k * 3 + j, none⟩) (Array.getElem?_eq_some_iff.1 hg).1
      have hc0 : wr.cell? ⟨g, k * 3, none⟩ = some (.string x.name) := hcw 0 (by omega)
      have hc1 : wr.cell? ⟨g, k * 3 + 1, none⟩ = some (.int .i64 x.n) := hcw 1 (by omega)
      have hc2 : wr.cell? ⟨g, k * 3 + 2, none⟩ = some (.int .i64 x.last) := hcw 2 (by omega)
      have HX := Lib.hid hx
      clear hc hv hx hcw
      have hd : decide ((k : Int) < fs.length) = true := by simp; omega
      by_cases hq : x.name = name
      · have hqt : (x.name.toList == name.toList) = true := by rw [hq]; simp
        have HQ := Lib.hid hq
        clear hq
        go_wp2
        go_roundw
        case rel => exact ⟨k + 1, by go_num, by omega, by rw [keepF_hit hlt (by rw [← HX.out]; exact HQ.out), ← HK.out]; exact HO.out, HBW.out⟩
        case measure => show fs.length - ((k : Int) + 1).toNat < fs.length - (k : Int).toNat; omega
      · have hqf : (x.name.toList == name.toList) = false := beq_false_of hq
        have HQ := Lib.hid hq
        clear hq
        go_wp2_with ((with_reducible show wpList _ _ _ (⟨some 38, _, _, _, _, _⟩ :: _) _ _); go_must (refine wpList_append_f rfl _ _ rfl w.heap.size (.slice ao4 K.length cap4) K rfl (World.ownsRow.alloc HO.out _) wr.heap.size 0 1 [x] rfl (fCells_at (fun j hj => fNew wr x j)) (by simp; omega) (by simp; omega) ?_; intro v6 w6 o6 g6; simp only [Act.put, List.setIfInBounds_toArray, List.set_cons_zero, List.set_cons_succ]))
        go_roundw
        case rel =>
          refine ⟨k + 1, by go_num, by omega, ?_, ?_⟩
          · rw [keepF_miss hlt (by rw [← HX.out]; exact HQ.out), ← HK.out, ← HX.out]; exact o6
          · exact (HBW.out.alloc hws _).grown g6 (by simp; omega) HOB.out
        case measure => show fs.length - ((k : Int) + 1).toNat < fs.length - (k : Int).toNat; omega
    · have hd : decide ((k : Int) < fs.length) = false := by simp; omega
      have hKe : K = fs.filter fun f => !decide (f.name = name) := by rw [HK.out, show k = fs.length by omega, keepF_all]
      have HKE := Lib.hid hKe
      clear hKe
      have h7 := (HBW.out.block p hplt).trans HP.out
      have f7 : wr.frozen? ⟨p, 3, none⟩ = false := frozen_of_row wr p 3 _ 51 h7
      clear h7
      by_cases hn : 0 < n
      · have hd2 : decide (n > 0) = true := by simp; omega
        go_wp2_with ((with_reducible show wpList _ _ _ (⟨some 47, _, _, _, _, _⟩ :: _) _ _); go_must (refine wpList_append_f rfl _ _ rfl w.heap.size (.slice ao4 K.length cap4) K rfl (World.ownsRow.alloc HO.out _) wr.heap.size 0 1 [⟨name, n, now⟩] rfl (fCells_at (fun j hj => fNew wr ⟨name, n, now⟩ j)) (by simp; omega) (by simp; omega) ?_; intro v7 w7 o7 g7; have b7 := (HBW.out.alloc hws _).grown g7 (by simp; omega) HOB.out; obtain ⟨ao7, cap7, hv7⟩ := ownF_shape o7; rw [List.length_append, List.length_singleton] at hv7; subst hv7; have h7 := (b7.block p hplt).trans HP.out; have c7 : w7.cell? ⟨p, 3, none⟩ = some (.slice ao fs.length cap) := (by rw [cell_of_row w7 p 3 _ 51 (0, 0) h7]; rfl); have f7 : w7.frozen? ⟨p, 3, none⟩ = false := frozen_of_row w7 p 3 _ 51 h7; simp only [Act.put, List.setIfInBounds_toArray, List.set_cons_zero, List.set_cons_succ]))
        refine bodyPost_end (results_none rfl _ _ _) rfl ?_
        refine ⟨⟨_, rfl⟩, set_end HST.out b7 (v7 := _) ?_⟩
        have o8 : OwnF w7 B _ (K ++ [⟨name, n, now⟩]) := own_low o7 (by omega)
        unfold setL
        rw [if_pos hn, ← HKE.out]
        exact o8
      · have hd2 : decide (n > 0) = false := by simp; omega
        go_wp2
        refine bodyPost_end (results_none rfl _ _ _) rfl ?_
        refine ⟨⟨_, rfl⟩, set_end HST.out HBW.out (v7 := _) ?_⟩
        have o8 : OwnF wr B _ K := own_low HO.out (by omega)
        unfold setL
        rw [if_neg (by omega), ← HKE.out, List.append_nil]
        exact o8
set_option maxRecDepth 100000 in
set_option maxHeartbeats 2000000 in
theorem r_strangers {B p : Nat} {w : World} {most wait : Int} {us : List RU} {fs : List RF} (h : RefSt B w p most wait us fs) (hl : fs.length < 1000000) (hu : us.length < 1000000) :
    Calls Tryz.prog 25 #[.pointer (some ⟨p, 0, none⟩)] w fun e w' => e = .returned (.int .i64 (strangersL us fs)) ∧ w' = w := by
  obtain ⟨vu, vf, h1, h2, h3⟩ := h.at_
  obtain ⟨ao, cap, rfl⟩ := ownF_shape h3
  have c3 : w.cell? ⟨p, 3, none⟩ = some (.slice ao fs.length cap) := by rw [cell_of_row w p 3 _ 51 (0, 0) h1]; rfl
  have HU := Lib.hid h3
  have HF := Lib.hid (fun name => r_find h name hu)
  clear h1 h2 h3 h
  go_enter Tryz.func25, Tryz.ntmps25
  go_wp2
  go_loopw [3, 4] (fun n i wr => ∃ k : Nat, i = .int .i64 k ∧ k ≤ fs.length ∧ n = .int .i64 (strangersL us (fs.take k)) ∧ wr = w) (fun _ i _ => fs.length - (intOf i).toNat)
  case atStart => exact ⟨0, rfl, by omega, rfl, rfl⟩
  case round =>
    obtain ⟨k, rfl, hk, rfl, rfl⟩ := hrel
    by_cases hlt : k < fs.length
    · obtain ⟨g, cap', hv, hBg, hcap, hmx, _, hc⟩ := ownF_row HU.out hlt
      obtain ⟨rfl, rfl⟩ : ao = some ⟨g, 0, none⟩ ∧ cap = cap' := by simpa using hv
      have hc0 := hc 0 (by omega)
      obtain ⟨u, hu⟩ : ∃ u, u = fs[k] := ⟨_, rfl⟩
      rw [← hu] at hc0
      have hc1 : wr.cell? ⟨g, k * 3, none⟩ = some (.string u.name) := hc0
      have hst : strangersL us (fs.take (k + 1)) = strangersL us (fs.take k) + (if (findU us u.name).isNone then 1 else 0) := by
        unfold strangersL
        rw [List.take_succ_eq_append_getElem hlt, ← hu, List.filter_append, List.length_append]
        cases hb : (findU us u.name).isNone <;> simp only [List.filter_cons, hb, List.filter_nil] <;> rfl
      have HS := Lib.hid hst
      have hsl : strangersL us (fs.take k) ≤ fs.length := Nat.le_trans (List.length_filter_le _ _) (by rw [List.length_take]; omega)
      clear hc hv hc0 hu hst
      have hd : decide ((k : Int) < fs.length) = true := by simp; omega
      go_wp2_with (go_at_call 19; refine (HF.out u.name).mono ?_; rintro e w1 ⟨r, rfl, hr, rfl⟩; rcases hr with ⟨i, v, rfl, _, _, hf, _⟩ | ⟨rfl, hf⟩)
      · have d0 : decide ((i : Int) < 0) = false := decide_eq_false (by omega)
        have hf2 : (findU us u.name).isNone = false := by unfold findU; rw [hf]; rfl
        rw [hf2] at HS
        go_wp2
        go_roundw
        case rel => exact ⟨k + 1, by go_num, by omega, by rw [HS.out]; first | done | simp, trivial⟩
        case measure => show fs.length - ((k : Int) + 1).toNat < fs.length - (k : Int).toNat; omega
      · have hf2 : (findU us u.name).isNone = true := by unfold findU; rw [hf]; rfl
        rw [hf2] at HS
        go_wp2
        go_roundw
        case rel => exact ⟨k + 1, by go_num, by omega, by rw [HS.out]; first | done | go_num, trivial⟩
        case measure => show fs.length - ((k : Int) + 1).toNat < fs.length - (k : Int).toNat; omega
    · have hd : decide ((k : Int) < fs.length) = false := by simp; omega
      go_wp2
      go_ret
      have e : fs.take k = fs := List.take_of_length_le (by omega)
      rw [e]
      exact ⟨rfl, rfl⟩
end Go.Proofs.YtkgbldkjpohinaaGreatDoor
