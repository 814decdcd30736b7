/- A slice of strings of the law's own, beside the table. -/
import Derived.Test.YtmphnoabkmoafaaGreatDoorM25
import Derived.Test.YtmphnoabkmoafaaGreatDoorM17
import Derived.Maps.AppendAt
namespace Go.Proofs.YtmphnoabkmoafaaGreatDoor
open Go.RowKit Go.Maps
set_option linter.unusedVariables false
variable {uu0 : Unit} [Base uu0]
def OwnS (w : World) (B : Nat) (v : Value) (l : List ByteArray) : Prop := w.ownsRow B 9 1 v l.length (l.map Value.string)
section
variable {w w' : World} {B : Nat} {v : Value} {l : List ByteArray}
theorem OwnS.nil (w : World) (B : Nat) : OwnS w B (.slice none 0 0) [] := ⟨rfl, .inl ⟨rfl, rfl⟩⟩
theorem OwnS.still (h : OwnS w B v l) (k : Still w w') : OwnS w' B v l := by
  obtain ⟨h0, h1 | ⟨g, cap, cur, e1, e2, e3, r⟩⟩ := h
  · exact ⟨h0, .inl h1⟩
  · exact ⟨h0, .inr ⟨g, cap, cur, e1, e2, k _ _ _ _ e3 (by decide), r⟩⟩
theorem OwnS.shape (h : OwnS w B v l) : ∃ ao cap, v = .slice ao l.length cap := by
  obtain ⟨h0, ⟨e, e2⟩ | ⟨g, cap, cur, e1, e2, e3, r⟩⟩ := h
  · exact ⟨none, 0, by rw [e2]; exact e⟩
  · exact ⟨_, _, e1⟩
theorem OwnS.cell (h : OwnS w B v l) {j : Nat} (hj : j < l.length) : ∃ g cap, v = .slice (some ⟨g, 0, none⟩) l.length cap ∧ B ≤ g ∧ g < w.heap.size ∧ w.cell? ⟨g, j, none⟩ = some (.string l[j]) := by
  obtain ⟨h0, ⟨e, e2⟩ | ⟨g, cap, cur, e1, e2, e3, h1, h2, h3, h4⟩⟩ := h
  · omega
  · refine ⟨g, cap, e1, e2, (Array.getElem?_eq_some_iff.1 e3).1, ?_⟩
    rw [cell_of_row w g j _ 9 (0, 0) e3]
    have : (cur.toList.take (l.length * 1))[j]? = (l.map Value.string)[j]? := by rw [h4]
    rw [List.getElem?_take_of_lt (by omega)] at this
    rw [← Array.getElem?_toList, this]
    simp [hj]
theorem OwnS.row (h : OwnS w B v l) (hl : 0 < l.length) : ∃ g cap cur, v = .slice (some ⟨g, 0, none⟩) l.length cap ∧ B ≤ g ∧ w.heap[g]? = some (.cells cur 9 (0, 0)) ∧ l.length ≤ cap ∧ ∀ j (hj : j < l.length), cur[j]? = some (.string l[j]) := by
  obtain ⟨h0, ⟨e, e2⟩ | ⟨g, cap, cur, e1, e2, e3, h1, h2, h3, h4⟩⟩ := h
  · omega
  · refine ⟨g, cap, cur, e1, e2, e3, h1, fun j hj => ?_⟩
    have : (cur.toList.take (l.length * 1))[j]? = (l.map Value.string)[j]? := by rw [h4]
    rw [List.getElem?_take_of_lt (by omega)] at this
    rw [← Array.getElem?_toList, this]
    simp [hj]
/-- What an append to it leaves of a table. -/
theorem TabAt.other {t : TypeId} {T M : Nat} {bl : ByteArray → Nat} {L : List PR} (h : TabAt w B T M bl L) (hbel : Below B w w') (hk : ∀ k, k < w.heap.size → (∀ cs, w.heap[k]? ≠ some (.cells cs t (0, 0))) → w'.heap[k]? = w.heap[k]?) (h3 : t ≠ 3) (h66 : t ≠ 68) (h69 : t ≠ 71) : TabAt w' B T M bl L := by
  refine ⟨?_, ?_, fun p hp => ?_, h.inj, h.lowT, h.lowM, h.lowP, h.lowB⟩
  · rw [hk T h.ltT (fun cs e => by rw [h.tab] at e; cases e; exact h69 rfl)]; exact h.tab
  · obtain ⟨es, clock, hb, r⟩ := h.map
    exact ⟨es, clock, by rw [hk M (Array.getElem?_eq_some_iff.1 hb).1 (fun cs e => by rw [hb] at e; cases e)]; exact hb, r⟩
  · obtain ⟨a, b, c, d, hh⟩ := h.procs p hp
    exact ⟨a, b, c, d, hh.keep ⟨fun g cur e => by rw [hk g (Array.getElem?_eq_some_iff.1 e).1 (fun cs e2 => by rw [e] at e2; cases e2; exact h3 rfl)]; exact e, fun g cs t z l e => by rw [hbel.block g (by have := h.lowB; omega)]; exact e⟩ (hk _ (h.ltP hp) (fun cs e => by rw [hh.row] at e; cases e; exact h66 rfl))⟩
theorem own_other {t : TypeId} {n : Nat} {xs : List Value} (h : w.ownsRow B t 1 v n xs) (hg : w.grownBy w' v.ownBlock) : ∀ k, k < w.heap.size → (∀ cs, w.heap[k]? ≠ some (.cells cs t (0, 0))) → w'.heap[k]? = w.heap[k]? := by
  intro k hk hne
  refine hg.block k hk ?_
  obtain ⟨h0, ⟨e, e2⟩ | ⟨g, cap, cur, e1, e2, e3, r⟩⟩ := h
  · rw [e]; simp [Value.ownBlock]
  · rw [e1]
    intro e
    cases e
    exact hne _ e3
theorem own_below {t : TypeId} {n : Nat} {xs : List Value} (h : w.ownsRow B t 1 v n xs) (hg : w.grownBy w' v.ownBlock) (hB : B ≤ w.heap.size) : Below B w w' := by
  refine (Below.refl B w).grown hg hB (fun k hk => ?_)
  obtain ⟨h0, ⟨e, e2⟩ | ⟨g, cap, cur, e1, e2, e3, r⟩⟩ := h
  · rw [e] at hk; simp [Value.ownBlock] at hk
  · rw [e1] at hk
    simp [Value.ownBlock] at hk
    omega
end
theorem und27 : Tryz.prog.underlying 57 = some (.slice 9) := by kernel_rfl
theorem info9 : (Tryz.prog.info? 9).map (fun i => (i.zero, i.size, i.bytes)) = some (some (.string ⟨#[]⟩), 1, 16) := by kernel_rfl
/-- 'append(l, s)' at the operation. -/
theorem wpList_append_str {w : World} {ops : Array Oper} {rest : List Oper} {o : Oper} {a : Act} {Q : Exit → Act → World → Prop} (hgd : o.guard = none) (s x : Operand)
    (ho : o.op = .call { callee := .builtin .append, args := #[s, x], argTypes := #[57, 57] })
    (B : Nat) (v : Value) (l : List ByteArray) (hs : a.eval s = v) (hown : OwnS w B v l) (b c : Nat) (u : ByteArray) (hx : a.eval x = .slice (some ⟨b, 0, none⟩) 1 c) (hu : w.cell? ⟨b, 0, none⟩ = some (.string u))
    (hl : l.length < 1000000) (hB : B ≤ w.heap.size)
    (h : ∀ v' w', OwnS w' B v' (l ++ [u]) → w.grownBy w' v.ownBlock → wpList Tryz.prog ops Q rest (a.put o.dst v') w') : wpList Tryz.prog ops Q (o :: rest) a w := by
  obtain ⟨i, hi, hz, hsz, hby⟩ := info_parts info9
  refine wpList_append_own w hgd s x 57 ho B 9 i (.string ⟨#[]⟩) 1 16 und27 hi hz hsz hby rfl (by omega) v l.length (l.map Value.string) hs hown ⟨b, 0, none⟩ 1 c [.string u] hx rfl (fun j y hj => ?_) (fun y hy => ?_) (by unfold maxLen; omega) (by omega) hB (fun v' w' h1 h2 _ => h v' w' ?_ h2)
  · match j, hj with
    | 0, hj =>
      simp at hj
      subst hj
      simpa [Addr.add] using hu
  · rw [List.mem_singleton.1 hy]; rfl
  · unfold OwnS
    rw [List.length_append, List.map_append]
    exact h1
end Go.Proofs.YtmphnoabkmoafaaGreatDoor
