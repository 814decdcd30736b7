/- A slice of whole numbers of the law's own: an append of one number, a number stored; what the table beside it sees of either. -/
import Derived.Test.YtmphnoabkmoafaaDoorShake
import Derived.Deep.AppendLies
import Derived.Laws.OwnMore
namespace Go.Proofs.YtmphnoabkmoafaaDoor
open Go.RowKit Go.Maps
set_option linter.unusedVariables false
theorem Ints3.refl (w : World) : Ints3 w w := fun g cur e => ⟨cur, e, fun j n h => ⟨n, h⟩⟩
theorem Ints3.trans {w w' w'' : World} (h : Ints3 w w') (k : Ints3 w' w'') : Ints3 w w'' := fun g cur e => by
  obtain ⟨c1, e1, h1⟩ := h g cur e
  obtain ⟨c2, e2, h2⟩ := k g c1 e1
  exact ⟨c2, e2, fun j n hj => by
    obtain ⟨n1, hn1⟩ := h1 j n hj
    exact h2 j n1 hn1⟩
theorem Ints3.of_keep {w w' : World} (h : Keep3 w w') : Ints3 w w' := fun g cur e => ⟨cur, h g cur e, fun j n h => ⟨n, h⟩⟩
theorem Ints3.set (w : World) (g j : Nat) (x : Int) : Ints3 w (w.setCell ⟨g, j, none⟩ (.int .i64 x)) := fun g' cur e => by
  by_cases h : g' = g
  · subst h
    refine ⟨_, heap_setCell_same w g' j cur 3 _ e, fun i n hi => ?_⟩
    rw [Array.getElem?_setIfInBounds]
    by_cases hij : j = i
    · subst hij
      have hl : j < cur.size := (Array.getElem?_eq_some_iff.1 hi).1
      rw [if_pos rfl, if_pos hl]
      exact ⟨x, rfl⟩
    · rw [if_neg hij]
      exact ⟨n, hi⟩
  · exact ⟨cur, (heap_setCell_other w ⟨g, j, none⟩ g' _ (by simpa using h)).trans e, fun j n h => ⟨n, h⟩⟩
theorem lits_snoc (l : List Int) (x : Int) : lits (l ++ [x]) = lits l ++ [.int .i64 x] := by simp [lits]
theorem run_append_i3 (w : World) (ty : TypeId) (base : Nat) (v : Value) (n : Nat) (l : List Int) (hown : w.ownsRow base 3 1 v n (lits l))
    (ad : Addr) (c : Nat) (x : Int) (hx : w.cell? ad = some (.int .i64 x)) (hn : n < 1000000) (hbase : base ≤ w.heap.size) (H : Nat) (hH : w.heap.size = H) :
    ∃ g cap w', (Builtin.append_ #[22, 22] ty #[v, .slice (some ad) 1 c]).run Tryd.prog w = .ok (.slice (some ⟨g, 0, none⟩) (n + 1) cap) w' ∧
      w'.ownsRow base 3 1 (.slice (some ⟨g, 0, none⟩) (n + 1) cap) (n + 1) (lits (l ++ [x])) ∧ w.grownBy w' v.ownBlock ∧ (v.ownBlock = some g ∨ g = H) ∧ Ints3 w w' := by
  obtain ⟨i, hi, hz, hsz, hby⟩ := info_parts info3
  have hln : (lits l).length = n := by have := hown.1; simpa using this
  have hxs : ∀ j u, ([Value.int .i64 x] : List Value)[j]? = some u → w.cell? (ad.add j) = some u := fun j u hj => by
    match j, hj with
    | 0, hj =>
      simp at hj
      subst hj
      simpa [Addr.add] using hx
  have h1 : ∀ u ∈ ([Value.int .i64 x] : List Value), u.oneCell' = true := fun u hu => by rw [List.mem_singleton.1 hu]; rfl
  obtain ⟨g, cap, w', hr, o1, o2, o3, o4⟩ := run_append_lies (P := Tryd.prog) w 22 ty base 3 i _ 1 8 und22 hi hz hsz hby rfl (by omega) v n (lits l) hown ad 1 c [.int .i64 x] rfl hxs h1 (by omega) (by unfold maxLen; omega) (by omega) hbase H hH
  refine ⟨g, cap, w', hr, by rw [lits_snoc]; exact o1, o2, o3, ?_⟩
  obtain ⟨_, ho2⟩ := id hown
  rcases ho2 with ⟨rfl, rfl⟩ | ⟨g0, cap0, cur, rfl, hbg, hg, hnc, hcm, hcs, htake⟩
  · exact Ints3.of_keep (fun g' cur' e => by rw [o2.block g' (Array.getElem?_eq_some_iff.1 e).1 (by simp [Value.ownBlock])]; exact e)
  · by_cases hroom : n + 1 ≤ cap0
    · have hr2 := run_append_room (P := Tryd.prog) w 22 ty 3 i und22 hi g0 n cap0 cur hg ad 1 c [.int .i64 x] (by rw [hsz]; rfl) hxs h1 hroom (by rw [hsz, hcs]; simp; omega)
      rw [hr2] at hr
      cases hr
      rw [hsz]
      intro g' cur' e
      by_cases hgg : g' = g
      · subst hgg
        rw [hg] at e
        cases e
        refine ⟨_, setRow_heap w g' cur _ 3 _ hg, fun j m hj => ?_⟩
        have hjl : j < cur.size := (Array.getElem?_eq_some_iff.1 hj).1
        have htl : (List.take (n * 1) cur.toList).length = n := by rw [List.length_take]; simp; omega
        rw [← Array.getElem?_toList]
        rcases Nat.lt_trichotomy j n with h | h | h
        · rw [List.append_assoc, List.getElem?_append_left (by omega), List.getElem?_take_of_lt (by omega), Array.getElem?_toList]
          exact ⟨m, hj⟩
        · subst h
          rw [List.append_assoc, List.getElem?_append_right (by omega), htl, Nat.sub_self]
          exact ⟨x, rfl⟩
        · rw [List.getElem?_append_right (by rw [List.length_append, htl]; simp; omega), List.length_append, htl, List.getElem?_drop]
          have : n * 1 + ([Value.int .i64 x] : List Value).length + (j - (n + ([Value.int .i64 x] : List Value).length)) = j := by simp; omega
          rw [this, Array.getElem?_toList]
          exact ⟨m, hj⟩
      · exact ⟨cur', (setRow_other w g g' _ hgg).trans e, fun j n h => ⟨n, h⟩⟩
    · have hgH : g = H := by
        rcases o3 with o3 | o3
        · exfalso
          have hg0 : g0 = g := by simpa [Value.ownBlock] using o3
          have holds : ∀ j u, (lits l)[j]? = some u → w.cell? ((⟨g0, 0, none⟩ : Addr).add j) = some u := hown.cells (g := g0) rfl
          have hr2 := run_append_grow (P := Tryd.prog) w 22 ty 3 i _ und22 hi hz ⟨g0, 0, none⟩ n cap0 (lits l) (by rw [hsz]; exact hown.1) holds ad 1 c [.int .i64 x] (by rw [hsz]; rfl) hxs (by omega) (by omega) (growslice_fits (by omega) (by rw [hby]; omega))
          rw [hr2] at hr
          cases hr
          have := (Array.getElem?_eq_some_iff.1 hg).1
          omega
        · exact o3
      have holds : ∀ j u, (lits l)[j]? = some u → w.cell? ((⟨g0, 0, none⟩ : Addr).add j) = some u := hown.cells (g := g0) rfl
      have hr2 := run_append_grow (P := Tryd.prog) w 22 ty 3 i _ und22 hi hz ⟨g0, 0, none⟩ n cap0 (lits l) (by rw [hsz]; exact hown.1) holds ad 1 c [.int .i64 x] (by rw [hsz]; rfl) hxs (by omega) (by omega) (growslice_fits (by omega) (by rw [hby]; omega))
      rw [hr2] at hr
      cases hr
      exact Ints3.of_keep (fun g' cur' e => by rw [heap_alloc_old w.drew _ (show g' < w.drew.heap.size from (Array.getElem?_eq_some_iff.1 e).1)]; exact e)
section
variable {ops : Array Oper} {o : Oper} {a : Act}
theorem wp_append_i3 (w : World) {K : Act → World → Prop} {Q : Exit → Act → World → Prop} (s x : Operand)
    (ho : o.op = .call { callee := .builtin .append, args := #[s, x], argTypes := #[22, 22] })
    (base : Nat) (v : Value) (n : Nat) (l : List Int) (hs : a.eval s = v) (hown : w.ownsRow base 3 1 v n (lits l))
    (ad : Addr) (c : Nat) (y : Int) (hx : a.eval x = .slice (some ad) 1 c) (hy : w.cell? ad = some (.int .i64 y)) (hn : n < 1000000) (hbase : base ≤ w.heap.size) (H : Nat) (hH : w.heap.size = H)
    (h : ∀ g cap w', w'.ownsRow base 3 1 (.slice (some ⟨g, 0, none⟩) (n + 1) cap) (n + 1) (lits (l ++ [y])) → w.grownBy w' v.ownBlock → (v.ownBlock = some g ∨ g = H) → Ints3 w w' → K (a.put o.dst (.slice (some ⟨g, 0, none⟩) (n + 1) cap)) w') : o.wp Tryd.prog a w K Q := by
  obtain ⟨g, cap, w', hr, h2, h3, h4, h5⟩ := run_append_i3 w o.type base v n l hown ad c y hy hn hbase H hH
  unfold Oper.wp execOp
  simp only [ho, resolve, invoke, builtin, Sem.run_bind, Sem.run_pure, Result.andThen_ok, List.map_toArray, List.map_cons, List.map_nil, hs, hx, hr]
  exact h g cap w' h2 h3 h4 h5
theorem wpList_append_i3 (w : World) {rest : List Oper} {Q : Exit → Act → World → Prop} (hgd : o.guard = none) (s x : Operand)
    (ho : o.op = .call { callee := .builtin .append, args := #[s, x], argTypes := #[22, 22] })
    (base : Nat) (v : Value) (n : Nat) (l : List Int) (hs : a.eval s = v) (hown : w.ownsRow base 3 1 v n (lits l))
    (ad : Addr) (c : Nat) (y : Int) (hx : a.eval x = .slice (some ad) 1 c) (hy : w.cell? ad = some (.int .i64 y)) (hn : n < 1000000) (hbase : base ≤ w.heap.size) (H : Nat) (hH : w.heap.size = H)
    (h : ∀ g cap w', w'.ownsRow base 3 1 (.slice (some ⟨g, 0, none⟩) (n + 1) cap) (n + 1) (lits (l ++ [y])) → w.grownBy w' v.ownBlock → (v.ownBlock = some g ∨ g = H) → Ints3 w w' → wpList Tryd.prog ops Q rest (a.put o.dst (.slice (some ⟨g, 0, none⟩) (n + 1) cap)) w') : wpList Tryd.prog ops Q (o :: rest) a w :=
  wpList_plain hgd fun _ hK => wp_append_i3 w s x ho base v n l hs hown ad c y hx hy hn hbase H hH fun g cap w' h2 h3 h4 h5 => hK _ _ (h g cap w' h2 h3 h4 h5)
theorem step_append_i3 (w : World) {K : Act → World → Prop} {Q : Exit → Act → World → Prop} {E : Prop} (hgd : o.guard = none) (s x : Operand)
    (ho : o.op = .call { callee := .builtin .append, args := #[s, x], argTypes := #[22, 22] })
    (base : Nat) (v : Value) (n : Nat) (l : List Int) (hs : a.eval s = v) (hown : w.ownsRow base 3 1 v n (lits l))
    (ad : Addr) (c : Nat) (y : Int) (hx : a.eval x = .slice (some ad) 1 c) (hy : w.cell? ad = some (.int .i64 y)) (hn : n < 1000000) (hbase : base ≤ w.heap.size) (H : Nat) (hH : w.heap.size = H)
    (h : ∀ g cap w', w'.ownsRow base 3 1 (.slice (some ⟨g, 0, none⟩) (n + 1) cap) (n + 1) (lits (l ++ [y])) → w.grownBy w' v.ownBlock → (v.ownBlock = some g ∨ g = H) → Ints3 w w' → K (a.put o.dst (.slice (some ⟨g, 0, none⟩) (n + 1) cap)) w') :
    if Region.wanted o (yielded ops a.tmps) = true then Oper.wp Tryd.prog o a w K Q else E := by
  have hw : Region.wanted o (yielded ops a.tmps) = true := by simp [Region.wanted, hgd]
  rw [if_pos hw]
  exact wp_append_i3 w s x ho base v n l hs hown ad c y hx hy hn hbase H hH h
end
theorem own_cell {w : World} {B g n cap m : Nat} {l : List Int} (h : w.ownsRow B 3 1 (.slice (some ⟨g, 0, none⟩) n cap) m (lits l)) {j : Nat} (hj : j < l.length) : w.cell? ⟨g, j, none⟩ = some (.int .i64 (l.getD j 0)) := by
  have hu : (lits l)[j]? = some (.int .i64 (l.getD j 0)) := by simp [lits, List.getD, hj]
  have := h.cells (g := g) rfl j _ hu
  rw [Addr.add_mid, Nat.zero_add] at this
  exact this
theorem own_scell {w : World} {B g n cap : Nat} {l : List ByteArray} (h : OwnS w B (.slice (some ⟨g, 0, none⟩) n cap) l) {j : Nat} (hj : j < l.length) : w.cell? ⟨g, j, none⟩ = some (.string l[j]) := by
  obtain ⟨g', cap', hv, _, _, hc⟩ := h.cell hj
  simp only [Value.slice.injEq, Option.some.injEq, Addr.mk.injEq, and_true] at hv
  obtain ⟨rfl, _⟩ := hv
  exact hc
/-- The law's four rows. -/
structure Rows4 (w : World) (B : Nat) (vi vf vm vt : Value) (ids : List ByteArray) (fk mk tg : List Int) : Prop where
  oI : OwnS w B vi ids
  oF : w.ownsRow B 3 1 vf fk.length (lits fk)
  oM : w.ownsRow B 3 1 vm mk.length (lits mk)
  oT : w.ownsRow B 3 1 vt tg.length (lits tg)
  aFM : ∀ k, vf.ownBlock = some k → vm.ownBlock ≠ some k
  aFT : ∀ k, vf.ownBlock = some k → vt.ownBlock ≠ some k
  aMT : ∀ k, vm.ownBlock = some k → vt.ownBlock ≠ some k
theorem ownsRow_stay {w w' : World} {B : Nat} {t : TypeId} {v : Value} {n : Nat} {xs : List Value} (h : w.ownsRow B t 1 v n xs) (hk : ∀ k, v.ownBlock = some k → w'.heap[k]? = w.heap[k]?) : w'.ownsRow B t 1 v n xs := by
  obtain ⟨h0, h1 | ⟨g, cap, cur, e1, e2, e3, r⟩⟩ := h
  · exact ⟨h0, .inl h1⟩
  · exact ⟨h0, .inr ⟨g, cap, cur, e1, e2, (hk g (by rw [e1]; rfl)).trans e3, r⟩⟩
theorem ownsRow_still {w w' : World} {B : Nat} {v : Value} {n : Nat} {xs : List Value} (h : w.ownsRow B 3 1 v n xs) (k : Still w w') : w'.ownsRow B 3 1 v n xs := by
  obtain ⟨h0, h1 | ⟨g, cap, cur, e1, e2, e3, r⟩⟩ := h
  · exact ⟨h0, .inl h1⟩
  · exact ⟨h0, .inr ⟨g, cap, cur, e1, e2, k _ _ _ _ e3 (by decide), r⟩⟩
theorem ownsRow_ty {w : World} {B : Nat} {t : TypeId} {v : Value} {n : Nat} {xs : List Value} (h : w.ownsRow B t 1 v n xs) {k : Nat} (hk : v.ownBlock = some k) : B ≤ k ∧ k < w.heap.size ∧ ∃ cs, w.heap[k]? = some (.cells cs t (0, 0)) := by
  obtain ⟨h0, ⟨e, _⟩ | ⟨g, cap, cur, e1, e2, e3, r⟩⟩ := h
  · rw [e] at hk; cases hk
  · rw [e1] at hk
    have : g = k := by simpa [Value.ownBlock] using hk
    subst this
    exact ⟨e2, (Array.getElem?_eq_some_iff.1 e3).1, cur, e3⟩
section
variable {w w' w1 : World} {B : Nat} {vi vf vm vt : Value} {ids : List ByteArray} {fk mk tg : List Int}
theorem Rows4.still (h : Rows4 w B vi vf vm vt ids fk mk tg) (k : Still w w') : Rows4 w' B vi vf vm vt ids fk mk tg :=
  ⟨h.oI.still k, ownsRow_still h.oF k, ownsRow_still h.oM k, ownsRow_still h.oT k, h.aFM, h.aFT, h.aMT⟩
theorem Rows4.ints (h : Rows4 w B vi vf vm vt ids fk mk tg) : IntsAt w vt tg := IntsAt.of_owns h.oT
/-- Two rows of two types never lie in one block. -/
theorem ty_ne {v v' : Value} {t t' : TypeId} {n n' : Nat} {xs xs' : List Value} (h : w.ownsRow B t 1 v n xs) (h' : w.ownsRow B t' 1 v' n' xs') (ht : t ≠ t') {k : Nat} (e : v.ownBlock = some k) : v'.ownBlock ≠ some k := fun e' => by
  obtain ⟨_, _, c1, h1⟩ := ownsRow_ty h e
  obtain ⟨_, _, c2, h2⟩ := ownsRow_ty h' e'
  rw [h1] at h2
  cases h2
  exact ht rfl
/-- A row that grows by a number: its new value. -/
theorem Rows4.putT (h : Rows4 w B vi vf vm vt ids fk mk tg) {g cap n : Nat} {x : Int} (hn : tg.length = n) (o : w'.ownsRow B 3 1 (.slice (some ⟨g, 0, none⟩) (n + 1) cap) (n + 1) (lits (tg ++ [x]))) (gr : w.grownBy w' vt.ownBlock) (hat : vt.ownBlock = some g ∨ g = w.heap.size) :
    Rows4 w' B vi vf vm (.slice (some ⟨g, 0, none⟩) (n + 1) cap) ids fk mk (tg ++ [x]) := by
  subst hn
  have far : ∀ {v : Value} {t : TypeId} {n : Nat} {xs : List Value}, w.ownsRow B t 1 v n xs → (∀ k, v.ownBlock = some k → vt.ownBlock ≠ some k) → (w'.ownsRow B t 1 v n xs ∧ ∀ k, v.ownBlock = some k → (Value.slice (some ⟨g, 0, none⟩) (tg.length + 1) cap).ownBlock ≠ some k) := fun {v t n xs} ho hne => by
    refine ⟨ownsRow_stay ho (fun k e => gr.block k (ownsRow_ty ho e).2.1 (fun e2 => hne k e e2.symm)), fun k e e2 => ?_⟩
    have hgk : g = k := by simpa [Value.ownBlock] using e2
    subst hgk
    rcases hat with h1 | h1
    · exact hne g e h1
    · have := (ownsRow_ty ho e).2.1; omega
  obtain ⟨i1, _⟩ := far h.oI (fun k e => ty_ne h.oI h.oT (by decide) e)
  obtain ⟨f1, f2⟩ := far h.oF h.aFT
  obtain ⟨m1, m2⟩ := far h.oM h.aMT
  exact ⟨i1, f1, m1, by rw [List.length_append]; exact o, h.aFM, f2, m2⟩
theorem Rows4.putM (h : Rows4 w B vi vf vm vt ids fk mk tg) {g cap n : Nat} {x : Int} (hn : mk.length = n) (o : w'.ownsRow B 3 1 (.slice (some ⟨g, 0, none⟩) (n + 1) cap) (n + 1) (lits (mk ++ [x]))) (gr : w.grownBy w' vm.ownBlock) (hat : vm.ownBlock = some g ∨ g = w.heap.size) :
    Rows4 w' B vi vf (.slice (some ⟨g, 0, none⟩) (n + 1) cap) vt ids fk (mk ++ [x]) tg := by
  subst hn
  have far : ∀ {v : Value} {t : TypeId} {n : Nat} {xs : List Value}, w.ownsRow B t 1 v n xs → (∀ k, v.ownBlock = some k → vm.ownBlock ≠ some k) → (w'.ownsRow B t 1 v n xs ∧ ∀ k, v.ownBlock = some k → (Value.slice (some ⟨g, 0, none⟩) (mk.length + 1) cap).ownBlock ≠ some k) := fun {v t n xs} ho hne => by
    refine ⟨ownsRow_stay ho (fun k e => gr.block k (ownsRow_ty ho e).2.1 (fun e2 => hne k e e2.symm)), fun k e e2 => ?_⟩
    have hgk : g = k := by simpa [Value.ownBlock] using e2
    subst hgk
    rcases hat with h1 | h1
    · exact hne g e h1
    · have := (ownsRow_ty ho e).2.1; omega
  obtain ⟨i1, _⟩ := far h.oI (fun k e => ty_ne h.oI h.oM (by decide) e)
  obtain ⟨f1, f2⟩ := far h.oF h.aFM
  obtain ⟨t1, t2⟩ := far h.oT (fun k e e2 => h.aMT k e2 e)
  exact ⟨i1, f1, by rw [List.length_append]; exact o, t1, f2, h.aFT, fun k e e2 => t2 k e2 e⟩
theorem Rows4.putF (h : Rows4 w B vi vf vm vt ids fk mk tg) {g cap n : Nat} {x : Int} (hn : fk.length = n) (o : w'.ownsRow B 3 1 (.slice (some ⟨g, 0, none⟩) (n + 1) cap) (n + 1) (lits (fk ++ [x]))) (gr : w.grownBy w' vf.ownBlock) (hat : vf.ownBlock = some g ∨ g = w.heap.size) :
    Rows4 w' B vi (.slice (some ⟨g, 0, none⟩) (n + 1) cap) vm vt ids (fk ++ [x]) mk tg := by
  subst hn
  have far : ∀ {v : Value} {t : TypeId} {n : Nat} {xs : List Value}, w.ownsRow B t 1 v n xs → (∀ k, v.ownBlock = some k → vf.ownBlock ≠ some k) → (w'.ownsRow B t 1 v n xs ∧ ∀ k, v.ownBlock = some k → (Value.slice (some ⟨g, 0, none⟩) (fk.length + 1) cap).ownBlock ≠ some k) := fun {v t n xs} ho hne => by
    refine ⟨ownsRow_stay ho (fun k e => gr.block k (ownsRow_ty ho e).2.1 (fun e2 => hne k e e2.symm)), fun k e e2 => ?_⟩
    have hgk : g = k := by simpa [Value.ownBlock] using e2
    subst hgk
    rcases hat with h1 | h1
    · exact hne g e h1
    · have := (ownsRow_ty ho e).2.1; omega
  obtain ⟨i1, _⟩ := far h.oI (fun k e => ty_ne h.oI h.oF (by decide) e)
  obtain ⟨m1, m2⟩ := far h.oM (fun k e e2 => h.aFM k e2 e)
  obtain ⟨t1, t2⟩ := far h.oT (fun k e e2 => h.aFT k e2 e)
  exact ⟨i1, by rw [List.length_append]; exact o, m1, t1, fun k e e2 => m2 k e2 e, fun k e e2 => t2 k e2 e, h.aMT⟩
theorem Rows4.putI (h : Rows4 w B vi vf vm vt ids fk mk tg) {v' : Value} {u : ByteArray} (o : OwnS w' B v' (ids ++ [u])) (gr : w.grownBy w' vi.ownBlock) :
    Rows4 w' B v' vf vm vt (ids ++ [u]) fk mk tg := by
  have far : ∀ {v : Value} {n : Nat} {xs : List Value}, w.ownsRow B 3 1 v n xs → w'.ownsRow B 3 1 v n xs := fun {v n xs} ho =>
    ownsRow_stay ho (fun k e => gr.block k (ownsRow_ty ho e).2.1 (fun e2 => ty_ne ho h.oI (by decide) e e2.symm))
  exact ⟨o, far h.oF, far h.oM, far h.oT, h.aFM, h.aFT, h.aMT⟩
theorem lits_set (l : List Int) (j : Nat) (x : Int) : lits (l.set j x) = (lits l).set j (.int .i64 x) := by simp [lits, List.map_set]
theorem Rows4.setM {g n cap : Nat} (h : Rows4 w B vi vf (.slice (some ⟨g, 0, none⟩) n cap) vt ids fk mk tg) (hn : mk.length = n) (j : Nat) (x : Int) :
    Rows4 (w.setCell ⟨g, j, none⟩ (.int .i64 x)) B vi vf (.slice (some ⟨g, 0, none⟩) n cap) vt ids fk (mk.set j x) tg := by
  subst hn
  obtain ⟨o, gr⟩ := h.oM.stored j (.int .i64 x)
  have far : ∀ {v : Value} {t : TypeId} {n : Nat} {xs : List Value}, w.ownsRow B t 1 v n xs → (∀ k, v.ownBlock = some k → k ≠ g) → ((w.setCell ⟨g, j, none⟩ (.int .i64 x)).ownsRow B t 1 v n xs) := fun {v t n xs} ho hne =>
    ownsRow_stay ho (fun k e => heap_setCell_other w ⟨g, j, none⟩ k _ (by simpa using hne k e))
  refine ⟨far h.oI (fun k e e2 => ty_ne h.oI h.oM (by decide) e (by rw [e2]; rfl)), far h.oF (fun k e e2 => h.aFM k e (by rw [e2]; rfl)), by rw [List.length_set, lits_set]; exact o, far h.oT (fun k e e2 => h.aMT k (by rw [e2]; rfl) e), h.aFM, h.aFT, h.aMT⟩
theorem Rows4.setF {g n cap : Nat} (h : Rows4 w B vi (.slice (some ⟨g, 0, none⟩) n cap) vm vt ids fk mk tg) (hn : fk.length = n) (j : Nat) (x : Int) :
    Rows4 (w.setCell ⟨g, j, none⟩ (.int .i64 x)) B vi (.slice (some ⟨g, 0, none⟩) n cap) vm vt ids (fk.set j x) mk tg := by
  subst hn
  obtain ⟨o, gr⟩ := h.oF.stored j (.int .i64 x)
  have far : ∀ {v : Value} {t : TypeId} {n : Nat} {xs : List Value}, w.ownsRow B t 1 v n xs → (∀ k, v.ownBlock = some k → k ≠ g) → ((w.setCell ⟨g, j, none⟩ (.int .i64 x)).ownsRow B t 1 v n xs) := fun {v t n xs} ho hne =>
    ownsRow_stay ho (fun k e => heap_setCell_other w ⟨g, j, none⟩ k _ (by simpa using hne k e))
  refine ⟨far h.oI (fun k e e2 => ty_ne h.oI h.oF (by decide) e (by rw [e2]; rfl)), by rw [List.length_set, lits_set]; exact o, far h.oM (fun k e e2 => h.aFM k (by rw [e2]; rfl) e), far h.oT (fun k e e2 => h.aFT k (by rw [e2]; rfl) e), h.aFM, h.aFT, h.aMT⟩
end
end Go.Proofs.YtmphnoabkmoafaaDoor
