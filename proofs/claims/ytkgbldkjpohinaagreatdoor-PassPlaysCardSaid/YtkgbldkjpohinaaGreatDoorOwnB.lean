/- A slice of bytes that the call itself made, whatever mark its block bears behind its last cell ('[]byte(s)' leaves one): appended to, read. -/
import Derived.ArgAppend
import Derived.Laws.IdiomCopy
import Derived.Test.YtkgbldkjpohinaaGreatDoorBytes
namespace Go.Proofs.YtkgbldkjpohinaaGreatDoor
open Go.RowKit

def OwnB (w : World) (base : Nat) (e : TypeId) (v : Value) (l : List Int) : Prop :=
  (v = .slice none 0 0 ∧ l = []) ∨
  ∃ g cap cur fr, v = .slice (some ⟨g, 0, none⟩) l.length cap ∧ base ≤ g ∧ w.heap[g]? = some (.cells cur e fr) ∧ l.length ≤ cap ∧ cap ≤ maxLen ∧ cur.size = cap ∧ (fr = (0, 0) ∨ cur.size ≤ fr.1) ∧ ∀ j, j < l.length → cur[j]? = some (.int .u8 (l.getD j 0))

section
variable {w w' : World} {base : Nat} {e : TypeId} {v : Value} {l : List Int}
theorem OwnB.shape (h : OwnB w base e v l) : ∃ ao c, v = .slice ao l.length c ∧ l.length ≤ c := by
  rcases h with ⟨rfl, rfl⟩ | ⟨g, cap, cur, fr, rfl, _, _, hc, _⟩
  · exact ⟨none, 0, rfl, Nat.le_refl _⟩
  · exact ⟨_, cap, rfl, hc⟩
theorem OwnB.lt (h : OwnB w base e v l) : ∀ k, v.ownBlock = some k → base ≤ k ∧ k < w.heap.size := by
  intro k hk
  rcases h with ⟨rfl, _⟩ | ⟨g, cap, cur, fr, rfl, hb, hg, _⟩
  · simp [Value.ownBlock] at hk
  · simp [Value.ownBlock] at hk
    subst hk
    exact ⟨hb, (Array.getElem?_eq_some_iff.1 hg).1⟩
theorem OwnB.alloc (h : OwnB w base e v l) (o : Obj) : OwnB (w.alloc o) base e v l := by
  rcases h with h | ⟨g, cap, cur, fr, hv, hb, hg, r⟩
  · exact .inl h
  · exact .inr ⟨g, cap, cur, fr, hv, hb, by rw [Go.RowKit.Below.heap_alloc w o g (Array.getElem?_eq_some_iff.1 hg).1]; exact hg, r⟩
theorem OwnB.drewN (h : OwnB w base e v l) (n : Nat) : OwnB (w.drewN n) base e v l := h
theorem OwnB.cells (h : OwnB w base e v l) (hn : 0 < l.length) : ∃ g cap, v = .slice (some ⟨g, 0, none⟩) l.length cap ∧ base ≤ g ∧ g < w.heap.size ∧ l.length ≤ cap ∧ cap ≤ maxLen ∧ ∀ j, j < l.length → w.cell? ⟨g, j, none⟩ = some (.int .u8 (l.getD j 0)) := by
  rcases h with ⟨_, rfl⟩ | ⟨g, cap, cur, fr, rfl, hb, hg, hc, hm, _, _, hj⟩
  · simp at hn
  · exact ⟨g, cap, rfl, hb, (Array.getElem?_eq_some_iff.1 hg).1, hc, hm, fun j hjl => by rw [cell_of_row w g j cur e fr hg]; exact hj j hjl⟩
theorem OwnB.of_owns {n : Nat} (h : w.ownsRow base e 1 v n (octets l)) : OwnB w base e v l := by
  have hn : l.length = n := by simpa [octets] using h.1
  rcases h.2 with ⟨rfl, rfl⟩ | ⟨g, cap, cur, rfl, hb, hg, hnc, hcm, hcs, htake⟩
  · exact .inl ⟨rfl, List.eq_nil_of_length_eq_zero hn⟩
  · refine .inr ⟨g, cap, cur, (0, 0), by rw [hn], hb, hg, by omega, hcm, by omega, .inl rfl, fun j hj => ?_⟩
    have hu : (octets l)[j]? = some (.int .u8 (l.getD j 0)) := by simp [octets, List.getD, hj]
    rw [← htake, List.getElem?_take] at hu
    split at hu
    · simpa using hu
    · cases hu
/-- '[]byte(s)' is owned. -/
theorem OwnB.of_string (w : World) (e : TypeId) (s : ByteArray) (base : Nat) (hb : base ≤ w.heap.size) (hs : s.size ≤ maxLen) :
    OwnB (Lib.bytesWorld w e s) base e (.slice (some ⟨w.heap.size, 0, none⟩) s.size (grownCap w s.size 0 e)) (bytesOf s) := by
  have hge := grownCap_ge w s.size 0 e
  have hsz : (Lib.bytesCells w e s).size = grownCap w s.size 0 e := by
    simp [Lib.bytesCells]
    have : s.data.size = s.size := rfl
    omega
  refine .inr ⟨w.heap.size, _, _, _, by rw [bytesOf_length], hb, Lib.bytesWorld_at_new w e s, by rw [bytesOf_length]; exact hge, grownCap_le_maxLen w _ _ _ hs, hsz, .inr (by simp), fun j hj => ?_⟩
  rw [bytesOf_length] at hj
  have hj' : j < s.data.size := hj
  simp only [Lib.bytesCells]
  rw [Array.getElem?_append_left (by simpa using hj')]
  have e1 : s.data[j]? = some s.data[j] := Array.getElem?_eq_getElem hj'
  simp [bytesOf, List.getD, e1]

theorem setCells_block (g : Nat) (e : TypeId) (fr : Nat × Nat) : ∀ (vs : List Value) (o : Nat) (w : World) (cur : Array Value), w.heap[g]? = some (.cells cur e fr) → o + vs.length ≤ cur.size →
    ∃ cur', (w.setCells g o vs).heap[g]? = some (.cells cur' e fr) ∧ cur'.size = cur.size ∧ (∀ j, j < o → cur'[j]? = cur[j]?) ∧ ∀ j, j < vs.length → cur'[o + j]? = vs[j]?
  | [], o, w, cur, h, _ => ⟨cur, h, rfl, fun _ _ => rfl, fun j hj => by cases hj⟩
  | v :: vs, o, w, cur, h, hs => by
    have h1 : (w.setCell ⟨g, o, none⟩ v).heap[g]? = some (.cells (cur.setIfInBounds o v) e fr) := by
      simp [World.setCell, Array.getElem?_modify, h]
    simp only [List.length_cons] at hs
    obtain ⟨cur', h2, h3, h4, h5⟩ := setCells_block g e fr vs (o + 1) _ _ h1 (by rw [Array.size_setIfInBounds]; omega)
    refine ⟨cur', h2, by simpa using h3, fun j hj => ?_, fun j hj => ?_⟩
    · rw [h4 j (by omega), Array.getElem?_setIfInBounds_ne (by omega)]
    · cases j with
      | zero =>
        have ho : o < cur.size := by omega
        rw [Nat.add_zero, h4 o (by omega), Array.getElem?_setIfInBounds_self_of_lt ho]
        rfl
      | succ j =>
        have := h5 j (by simp at hj; omega)
        rw [show o + (j + 1) = o + 1 + j by omega, this]
        simp
theorem setCells_grown (g : Nat) : ∀ (vs : List Value) (o : Nat) (w : World), w.grownBy (w.setCells g o vs) (some g)
  | [], _, w => World.grownBy.refl w _
  | v :: vs, o, w => by
    have h := setCells_grown g vs (o + 1) (w.setCell ⟨g, o, none⟩ v)
    have hsz : (w.setCell ⟨g, o, none⟩ v).heap.size = w.heap.size := by simp [World.setCell]
    refine ⟨h.os, h.tape, h.output, by have := h.size; rw [hsz] at this; exact this, fun k hk hne => ?_⟩
    exact (h.block k (by rw [hsz]; exact hk) hne).trans (Below.heap_setCell w ⟨g, o, none⟩ v k (fun e => hne (by rw [e])))
theorem octets_length (l : List Int) : (octets l).length = l.length := by simp [octets]
theorem octets_get (l : List Int) (j : Nat) (h : j < l.length) : (octets l)[j]? = some (.int .u8 (l.getD j 0)) := by simp [octets, List.getD, h]
theorem getD_append_left' (a b : List Int) (j : Nat) (h : j < a.length) : (a ++ b).getD j 0 = a.getD j 0 := by simp [List.getD, List.getElem?_append, h]
theorem getD_append_right' (a b : List Int) (j : Nat) : (a ++ b).getD (a.length + j) 0 = b.getD j 0 := by
  simp [List.getD, List.getElem?_append_right]
end

theorem run_append_ownB {P : Program} (w : World) (base : Nat) (t ty e : TypeId) (i : TypeInfo) (z : Value) (ht : P.underlying t = some (.slice e)) (hi : P.info? e = some i) (hz : i.zero = some z)
    (hsize : i.size = 1) (hby : i.bytes = 1) (hzs : z.cells.size = 1) (v : Value) (xs l : List Int) (hown : OwnB w base e v xs) (vx : Value) (hB : BytesAt w vx l) (hl : 0 < l.length)
    (hbytes : xs.length + l.length ≤ 140737488355328) (hbase : base ≤ w.heap.size) :
    ∃ v' w', (Builtin.append_ #[t, t] ty #[v, vx]).run P w = .ok v' w' ∧ OwnB w' base e v' (xs ++ l) ∧ w.grownBy w' v.ownBlock := by
  rcases hB with ⟨rfl, _⟩ | ⟨b, off, c, rfl, h0, hc, hlt, hcell⟩
  · simp at hl
  have hnews : ∀ j u, (octets l)[j]? = some u → w.cell? ((⟨b, off, none⟩ : Addr).add j) = some u := fun j u hu => by
    have hj : j < l.length := by
      have := (List.getElem?_eq_some_iff.1 hu).1
      rwa [octets_length] at this
    rw [octets_get l j hj] at hu
    rw [Addr.add_mid, hcell j hj]
    exact hu
  rcases hown with ⟨rfl, rfl⟩ | ⟨g, cap, cur, fr, rfl, hbg, hg, hnc, hcm, hcs, hfr, hcur⟩
  · obtain ⟨v', w', h1, h2, h3, _⟩ := run_append_own (P := P) w base t ty e i z 1 1 ht hi hz hsize hby hzs (by omega) (.slice none 0 0) 0 [] (World.ownsRow_nil _ _ _ _) ⟨b, off, none⟩ l.length c (octets l) (by rw [octets_length]; omega) hnews (octets_oneCell l) (by simp only [maxLen]; omega) (by omega) hbase
    exact ⟨v', w', h1, OwnB.of_owns (n := 0 + l.length) (by simpa using h2), h3⟩
  · by_cases hroom : xs.length + l.length ≤ cap
    · have hcells : ∀ j, j < (octets l).length → (w.cell? ⟨g, 0 + xs.length * i.size + j, none⟩).isSome = true ∧ w.frozen? ⟨g, 0 + xs.length * i.size + j, none⟩ = false := fun j hj => by
        rw [octets_length] at hj
        rw [hsize, cell_of_row w g _ cur e fr hg]
        have hlt2 : 0 + xs.length * 1 + j < cur.size := by omega
        refine ⟨by simp; omega, ?_⟩
        simp only [World.frozen?, hg]
        rcases hfr with rfl | hfr
        · simp
        · have : ¬ fr.1 ≤ 0 + xs.length * 1 + j := by omega
          obtain ⟨lo, hi'⟩ := fr
          simp only at this
          simp; omega
      have hr := run_append_room_cells (P := P) w t ty e i ht hi g 0 xs.length cap ⟨b, off, none⟩ l.length c (octets l) (by rw [octets_length, hsize]; omega) hnews (octets_oneCell l) hroom (fun j hj => (hcells j hj).1) (fun j hj => (hcells j hj).2)
      obtain ⟨cur', h2, h3, h4, h5⟩ := setCells_block g e fr (octets l) (0 + xs.length * i.size) w cur hg (by rw [octets_length, hsize]; omega)
      refine ⟨_, _, hr, .inr ⟨g, cap, cur', fr, by rw [List.length_append], hbg, h2, by rw [List.length_append]; exact hroom, hcm, by omega, by rw [h3]; exact hfr, fun j hj => ?_⟩, setCells_grown g _ _ w⟩
      rw [List.length_append] at hj
      rw [hsize] at h4 h5
      by_cases hjx : j < xs.length
      · rw [h4 j (by omega), getD_append_left' _ _ _ hjx]; exact hcur j hjx
      · obtain ⟨m, rfl⟩ : ∃ m, j = xs.length + m := ⟨j - xs.length, by omega⟩
        have := h5 m (by rw [octets_length]; omega)
        rw [show 0 + xs.length * 1 + m = xs.length + m by omega] at this
        rw [this, octets_get l m (by omega), getD_append_right']
    · have holds : ∀ j u, (octets xs)[j]? = some u → w.cell? ((⟨g, 0, none⟩ : Addr).add j) = some u := fun j u hu => by
        have hj : j < xs.length := by
          have := (List.getElem?_eq_some_iff.1 hu).1
          rwa [octets_length] at this
        rw [octets_get xs j hj] at hu
        rw [Addr.add_mid, cell_of_row w g _ cur e fr hg, Nat.zero_add, hcur j hj]
        exact hu
      have hr := run_append_grow (P := P) w t ty e i z ht hi hz ⟨g, 0, none⟩ xs.length cap (octets xs) (by rw [octets_length, hsize]; omega) holds ⟨b, off, none⟩ l.length c (octets l) (by rw [octets_length, hsize]; omega) hnews (by omega) (by omega) (growslice_fits (by omega) (by rw [hby]; omega))
      have hge := grownCap_ge w (xs.length + l.length) cap e
      have hgm := grownCap_le_maxLen w (xs.length + l.length) cap e (by simp only [maxLen]; omega)
      refine ⟨_, _, hr, .inr ⟨w.heap.size, _, _, (0, 0), by rw [List.length_append], hbase, heap_alloc_new w.drew _, by rw [List.length_append]; exact hge, hgm, ?_, .inl rfl, fun j hj => ?_⟩, ⟨rfl, rfl, rfl, by simp, fun k hk _ => Go.RowKit.Below.heap_alloc w.drew _ k hk⟩⟩
      · simp only [Array.size_append, List.size_toArray, size_zeroCells, hzs, octets_length]
        omega
      · rw [List.length_append] at hj
        have e1 : (octets xs ++ octets l)[j]? = some (.int .u8 ((xs ++ l).getD j 0)) := by
          have : octets xs ++ octets l = octets (xs ++ l) := by simp [octets]
          rw [this, octets_get _ j (by rw [List.length_append]; exact hj)]
        rw [Array.getElem?_append_left (by simp only [Array.size_append, List.size_toArray, octets_length]; exact hj), List.append_toArray, List.getElem?_toArray, e1]

section
variable {P : Program} {w : World} {ops : Array Oper} {rest : List Oper} {o : Oper} {a : Act} {Q : Exit → Act → World → Prop}
theorem wpList_append_ownB (hgd : o.guard = none) (s x : Operand) (t : TypeId)
    (ho : o.op = .call { callee := .builtin .append, args := #[s, x], argTypes := #[t, t] })
    (base : Nat) (e : TypeId) (i : TypeInfo) (z : Value) (ht : P.underlying t = some (.slice e)) (hi : P.info? e = some i) (hz : i.zero = some z)
    (hsize : i.size = 1) (hby : i.bytes = 1) (hzs : z.cells.size = 1)
    (v : Value) (xs l : List Int) (hs : a.eval s = v) (hown : OwnB w base e v xs)
    (vx : Value) (hx : a.eval x = vx) (hB : BytesAt w vx l) (hl : 0 < l.length)
    (hbytes : xs.length + l.length ≤ 140737488355328) (hbase : base ≤ w.heap.size)
    (h : ∀ v' w', OwnB w' base e v' (xs ++ l) → w.grownBy w' v.ownBlock → wpList P ops Q rest (a.put o.dst v') w') : wpList P ops Q (o :: rest) a w :=
  wpList_plain hgd fun K hK => by
    obtain ⟨v', w', hr, h2, h3⟩ := run_append_ownB (P := P) w base t o.type e i z ht hi hz hsize hby hzs v xs l hown vx hB hl hbytes hbase
    unfold Oper.wp execOp
    simp only [ho, resolve, invoke, builtin, Sem.run_bind, Sem.run_pure, Result.andThen_ok, List.map_toArray, List.map_cons, List.map_nil, hs, hx, hr]
    exact hK _ _ (h v' w' h2 h3)
/-- '[]byte(s)', its block known as the call's own. -/
theorem wpList_string_own (hgd : o.guard = none) (src dst e : TypeId) (x : Operand) (ho : o.op = .convert src dst x) (s : ByteArray)
    (hs : P.underlying src = some .string) (hd : P.underlying dst = some (.slice e)) (he : P.underlying e = some (.int .u8)) (hx : a.eval x = .string s) (base : Nat) (hb : base ≤ w.heap.size) (hm : s.size ≤ maxLen)
    (h : ∀ v w', OwnB w' base e v (bytesOf s) → Below w.heap.size w w' → wpList P ops Q rest (a.put o.dst v) w') : wpList P ops Q (o :: rest) a w :=
  wpList_plain hgd fun K hK => by
    unfold Oper.wp
    simp [execOp, ho, hx, Lib.run_convert_string_bytes w src dst e s hs hd he, Result.andThen]
    exact hK _ _ (h _ _ (OwnB.of_string w e s base hb hm) ⟨rfl, rfl, rfl, by rw [Lib.bytesWorld_size]; omega, fun k hk => Lib.bytesWorld_at_old w e s k hk⟩)
end
end Go.Proofs.YtkgbldkjpohinaaGreatDoor
