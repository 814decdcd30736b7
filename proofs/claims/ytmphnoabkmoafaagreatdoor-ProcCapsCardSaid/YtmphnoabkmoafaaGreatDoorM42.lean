/- A row of capabilities of the law's own; a box of capabilities. -/
import Derived.Laws.AppendOwn
import Derived.Test.YtmphnoabkmoafaaGreatDoorM39
import Derived.Test.YtmphnoabkmoafaaGreatDoorM27
import Derived.Test.YtmphnoabkmoafaaGreatDoorM41
namespace Go.Proofs.YtmphnoabkmoafaaGreatDoor
open Go.RowKit Go.Maps
set_option linter.unusedVariables false
variable {uu0 : Unit} [Base uu0]
abbrev VV := Value × Value
instance : Inhabited VV := ⟨(.slice none 0 0, .slice none 0 0)⟩
def cCells (p : VV) : List Value := [p.1, p.2]
def OwnC (w : World) (B : Nat) (v : Value) (l : List VV) : Prop := w.ownsRow B 34 2 v l.length (l.flatMap cCells)
theorem undC : Tryz.prog.underlying 61 = some (.slice 34) := by kernel_rfl
theorem info34 : (Tryz.prog.info? 34).map (fun i => (i.zero, i.size, i.bytes)) = some (some (.agg #[.slice none 0 0, .slice none 0 0]), 2, 48) := by kernel_rfl
theorem len_flat {α : Type} (f : α → List Value) (k : Nat) (hk : ∀ a, (f a).length = k) : ∀ l : List α, (l.flatMap f).length = l.length * k
  | [] => by simp
  | a :: r => by rw [List.flatMap_cons, List.length_append, hk, len_flat f k hk r, List.length_cons, Nat.add_mul]; omega
theorem flatMap_get {α : Type} (f : α → List Value) (k : Nat) (hk : ∀ a, (f a).length = k) : ∀ (l : List α) (i j : Nat), j < k → (hi : i < l.length) → (l.flatMap f)[i * k + j]? = (f l[i])[j]?
  | a :: r, 0, j, hj, _ => by
    rw [List.flatMap_cons, List.getElem?_append_left (by rw [hk]; omega)]
    simp
  | a :: r, i + 1, j, hj, hi => by
    have e : (i + 1) * k + j = k + (i * k + j) := by rw [Nat.add_mul]; omega
    rw [List.flatMap_cons, e, List.getElem?_append_right (by rw [hk]; omega), hk, Nat.add_sub_cancel_left]
    have := flatMap_get f k hk r i j hj (by simpa using hi)
    simpa using this
  | [], i, j, _, hi => by simp at hi
/-- What a pair of slices reads as. -/
def ReadsC (w : World) (p : VV) (c : CP) : Prop := IntsAt w p.1 c.1 ∧ IntsAt w p.2 c.2
/-- A row of capabilities. -/
def CapsRow (w : World) (B : Nat) (v : Value) (cs : List CP) : Prop := ∃ l : List VV, l.length = cs.length ∧ OwnC w B v l ∧ ∀ j (h1 : j < l.length) (h2 : j < cs.length), ReadsC w l[j] cs[j]
/-- What leaves all but rows of capabilities as it was. -/
structure Fr34 (w w' : World) : Prop where
  size : w.heap.size ≤ w'.heap.size
  low : ∀ (g : Nat) (cs : Array Value) (t : TypeId) (z : Nat × Nat), g < Base.lo → w.heap[g]? = some (.cells cs t z) → w'.heap[g]? = some (.cells cs t z)
  block : ∀ (k : Nat) (o : Obj), w.heap[k]? = some o → (∀ cs, o ≠ .cells cs 34 (0, 0)) → w'.heap[k]? = some o
section
variable {w w' w'' : World} {B T M : Nat} {bl : ByteArray → Nat} {L : List PR} {v : Value} {l : List Int} {cs : List CP} {p : VV} {c : CP}
theorem Fr34.refl (w : World) : Fr34 w w := ⟨Nat.le_refl _, fun _ _ _ _ _ h => h, fun _ _ h _ => h⟩
theorem Fr34.trans (h : Fr34 w w') (k : Fr34 w' w'') : Fr34 w w'' := ⟨Nat.le_trans h.size k.size, fun g c t z l e => k.low g c t z l (h.low g c t z l e), fun i o e n => k.block i o (h.block i o e n) n⟩
theorem Fr34.of_below (h : Below w.heap.size w w') : Fr34 w w' := ⟨h.size, (Keep3.of_below h).low, fun i o e _ => (h.block i (Array.getElem?_eq_some_iff.1 e).1).trans e⟩
theorem Fr34.keep3 (h : Fr34 w w') : Keep3 w w' := ⟨fun g cur e => h.block g _ e (fun cs k => by cases k), h.low⟩
theorem Fr34.row {g : Nat} {cs : Array Value} {t : TypeId} (h : Fr34 w w') (e : w.heap[g]? = some (.cells cs t (0, 0))) (ht : t ≠ 34) : w'.heap[g]? = some (.cells cs t (0, 0)) := h.block g _ e (fun cs k => by cases k; exact ht rfl)
theorem TabAt.fr34 (h : TabAt w B T M bl L) (k : Fr34 w w') (hb : Below B w w') : TabAt w' B T M bl L := by
  refine h.other (t := 34) hb (fun i hi hne => ?_) (by decide) (by decide) (by decide)
  obtain ⟨o, ho⟩ : ∃ o, w.heap[i]? = some o := ⟨_, Array.getElem?_eq_getElem hi⟩
  rw [ho]
  exact k.block i o ho (fun cs e => hne cs (by rw [ho, e]))
theorem RowS.fr34 {l : List ByteArray} (h : RowS w v l) (k : Fr34 w w') : RowS w' v l := by
  obtain ⟨ao, c, e, hc⟩ := h
  refine ⟨ao, c, e, fun j hj => ?_⟩
  obtain ⟨g, cur, h1, h2, h3⟩ := hc j hj
  exact ⟨g, cur, h1, k.row h2 (by decide), h3⟩
theorem RowS.below {l : List ByteArray} (h : RowS w v l) (k : Below w.heap.size w w') : RowS w' v l := h.still (Still.of_below k)
theorem ReadsC.keep (h : ReadsC w p c) (k : Keep3 w w') : ReadsC w' p c := ⟨h.1.keep k, h.2.keep k⟩
theorem CapsRow.nil (w : World) (B : Nat) : CapsRow w B (.slice none 0 0) [] := ⟨[], rfl, ⟨rfl, .inl ⟨rfl, rfl⟩⟩, fun j h => by simp at h⟩
theorem CapsRow.bel {B' : Nat} (h : CapsRow w B v cs) (k : Bel B' w w') : CapsRow w' B v cs := by
  obtain ⟨l, hl, ho, hr⟩ := h
  refine ⟨l, hl, ?_, fun j h1 h2 => (hr j h1 h2).keep k.keep3⟩
  obtain ⟨h0, h1 | ⟨g, cap, cur, e1, e2, e3, r⟩⟩ := ho
  · exact ⟨h0, .inl h1⟩
  · exact ⟨h0, .inr ⟨g, cap, cur, e1, e2, k.still _ _ _ _ e3 (by decide), r⟩⟩
theorem CapsRow.shape (h : CapsRow w B v cs) : ∃ ao cap, v = .slice ao cs.length cap := by
  obtain ⟨l, hl, ⟨h0, ⟨e, e2⟩ | ⟨g, cap, cur, e1, e2, e3, r⟩⟩, hr⟩ := h
  · exact ⟨none, 0, by rw [← hl, e2]; exact e⟩
  · exact ⟨_, _, by rw [← hl]; exact e1⟩
theorem CapsRow.cell (h : CapsRow w B v cs) {j : Nat} (hj : j < cs.length) : ∃ g cap x y, v = .slice (some ⟨g, 0, none⟩) cs.length cap ∧ g < w.heap.size ∧ w.cell? ⟨g, j * 2, none⟩ = some x ∧ w.cell? ⟨g, j * 2 + 1, none⟩ = some y ∧ IntsAt w x cs[j].1 ∧ IntsAt w y cs[j].2 := by
  obtain ⟨l, hl, ⟨h0, ⟨e, e2⟩ | ⟨g, cap, cur, e1, e2, e3, h1, h2, h3, h4⟩⟩, hr⟩ := h
  · omega
  · have hjl : j < l.length := by omega
    have key : ∀ i, i < 2 → w.cell? ⟨g, j * 2 + i, none⟩ = (cCells l[j])[i]? := fun i hi => by
      have hb : j * 2 + i < l.length * 2 := by omega
      have : (cur.toList.take (l.length * 2))[j * 2 + i]? = (l.flatMap cCells)[j * 2 + i]? := by rw [h4]
      rw [List.getElem?_take_of_lt hb, flatMap_get cCells 2 (fun _ => rfl) l j i hi hjl] at this
      rw [cell_of_row w g _ cur 34 (0, 0) e3, ← this, Array.getElem?_toList]
    exact ⟨g, cap, l[j].1, l[j].2, by rw [← hl]; exact e1, (Array.getElem?_eq_some_iff.1 e3).1, key 0 (by omega), key 1 (by omega), (hr j hjl hj).1, (hr j hjl hj).2⟩
theorem CapsRow.lt (h : CapsRow w B v cs) {k : Nat} (hk : v.ownBlock = some k) : B ≤ k ∧ k < w.heap.size ∧ ∃ cur, w.heap[k]? = some (.cells cur 34 (0, 0)) := by
  obtain ⟨l, hl, ⟨h0, ⟨e, _⟩ | ⟨g, cap, cur, e1, e2, e3, r⟩⟩, hr⟩ := h
  · rw [e] at hk; cases hk
  · rw [e1] at hk
    have : g = k := by simpa [Value.ownBlock] using hk
    subst this
    exact ⟨e2, (Array.getElem?_eq_some_iff.1 e3).1, cur, e3⟩
theorem Fr34.of_grown (h : CapsRow w B v cs) (hg : w.grownBy w' v.ownBlock) (hlo : Base.lo ≤ B) : Fr34 w w' := by
  refine ⟨hg.size, fun g c t z l e => (hg.block g (Array.getElem?_eq_some_iff.1 e).1 (fun k => by have := (h.lt k.symm).1; omega)).trans e, fun i o e n => (hg.block i (Array.getElem?_eq_some_iff.1 e).1 (fun k => ?_)).trans e⟩
  obtain ⟨_, _, cur, hc⟩ := h.lt k.symm
  rw [e] at hc
  exact n _ (Option.some.inj hc)
end
/-- 'append(was, c)'. -/
theorem wpList_append_c {w : World} {ops : Array Oper} {rest : List Oper} {o : Oper} {a : Act} {Q : Exit → Act → World → Prop} (hgd : o.guard = none) (s x : Operand) (ho : o.op = .call { callee := .builtin .append, args := #[s, x], argTypes := #[61, 61] })
    (B : Nat) (v : Value) (cs : List CP) (hs : a.eval s = v) (hown : CapsRow w B v cs) (b m : Nat) (y z : Value) (c : CP) (hx : a.eval x = .slice (some ⟨b, 0, none⟩) 1 m) (hy : w.cell? ⟨b, 0, none⟩ = some y) (hz : w.cell? ⟨b, 1, none⟩ = some z) (hr1 : IntsAt w y c.1) (hr2 : IntsAt w z c.2)
    (hl : cs.length < 1000000) (hB : B ≤ w.heap.size) (hlo : Base.lo ≤ B)
    (h : ∀ v' w', CapsRow w' B v' (cs ++ [c]) → Fr34 w w' → Below B w w' → wpList Tryz.prog ops Q rest (a.put o.dst v') w') : wpList Tryz.prog ops Q (o :: rest) a w := by
  obtain ⟨n, hi, hzz, hsz, hby⟩ := info_parts info34
  have hown0 := hown
  obtain ⟨l, hll, hown, hr⟩ := hown
  obtain ⟨a1, n1, c1, rfl⟩ := hr1.shape3
  obtain ⟨a2, n2, c2, rfl⟩ := hr2.shape3
  refine wpList_append_own w hgd s x 61 ho B 34 n _ 2 48 undC hi hzz hsz hby rfl (by omega) v l.length (l.flatMap cCells) hs hown ⟨b, 0, none⟩ 1 m [.slice a1 n1 c1, .slice a2 n2 c2] hx rfl (fun j u hj => ?_) (fun u hu => ?_) (by unfold maxLen; omega) (by omega) hB (fun v' w' h1 h2 _ => h v' w' ?_ (Fr34.of_grown hown0 h2 hlo) ?_)
  · have e : (⟨b, 0, none⟩ : Addr).add j = ⟨b, j, none⟩ := by unfold Addr.add; split <;> simp_all
    rw [e]
    match j, hj with
    | 0, hj => simp at hj; subst hj; exact hy
    | 1, hj => simp at hj; subst hj; exact hz
  · simp only [List.mem_cons, List.not_mem_nil, or_false] at hu
    rcases hu with rfl | rfl <;> rfl
  · have kk := (Fr34.of_grown hown0 h2 hlo).keep3
    refine ⟨l ++ [(.slice a1 n1 c1, .slice a2 n2 c2)], by simp [hll], ?_, fun j h3 h4 => ?_⟩
    · unfold OwnC
      rw [List.flatMap_append, List.length_append]
      exact h1
    · by_cases hj : j < l.length
      · rw [List.getElem_append_left hj, List.getElem_append_left (by omega)]
        exact (hr j hj (by omega)).keep kk
      · have e1 : j = l.length := by simp at h3; omega
        subst e1
        rw [List.getElem_append_right (by omega), List.getElem_append_right (by omega)]
        simp only [Nat.sub_self, hll, List.getElem_cons_zero]
        exact ⟨hr1.keep kk, hr2.keep kk⟩
  · refine (Below.refl B w).grown h2 hB (fun k hk => (hown0.lt hk).1)
/-- A box of capabilities. -/
def BoxC (w : World) (b : Nat) (c : CP) : Prop := ∃ x y, w.heap[b]? = some (.cells #[x, y] 34 (0, 0)) ∧ IntsAt w x c.1 ∧ IntsAt w y c.2
theorem BoxC.below {w w' : World} {b : Nat} {c : CP} (h : BoxC w b c) (k : Below w.heap.size w w') : BoxC w' b c := by
  obtain ⟨x, y, h1, h2, h3⟩ := h
  exact ⟨x, y, (k.block b (Array.getElem?_eq_some_iff.1 h1).1).trans h1, h2.below k (Nat.le_refl _), h3.below k (Nat.le_refl _)⟩
theorem BoxC.bel {w w' : World} {B b : Nat} {c : CP} (h : BoxC w b c) (k : Bel B w w') : BoxC w' b c := by
  obtain ⟨x, y, h1, h2, h3⟩ := h
  exact ⟨x, y, k.still _ _ _ _ h1 (by decide), h2.keep k.keep3, h3.keep k.keep3⟩
end Go.Proofs.YtmphnoabkmoafaaGreatDoor
