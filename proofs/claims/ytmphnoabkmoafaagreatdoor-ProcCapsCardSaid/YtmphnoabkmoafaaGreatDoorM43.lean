/- The reference's Sub. The reference's Set. The reference's put: a tag that is not there into a rising list. -/
import Derived.Test.YtmphnoabkmoafaaGreatDoorM10
import Derived.BigQuiet
import Derived.Test.YtmphnoabkmoafaaGreatDoorM4
namespace Go.Proofs.YtmphnoabkmoafaaGreatDoor
open Go.RowKit
set_option linter.unusedVariables false
variable {uu0 : Unit} [Base uu0]
set_option maxRecDepth 100000 in
set_option maxHeartbeats 800000 in
theorem refsub_any (a b : Value) (la lb : List Int) (w : World) (ha : IntsAt w a la) (hb : IntsAt w b lb) (hla : la.length ≤ 1000000000000000) (hlb : lb.length ≤ 1000000000000000) :
    Calls Tryz.prog 55 #[a, b] w fun e w' => e = .returned (.bool (decide (∀ x ∈ la, x ∈ lb))) ∧ w' = w := by
  obtain ⟨ao, c, hva⟩ := ha.shape
  obtain ⟨aob, cb, hvb⟩ := hb.shape
  subst hva hvb
  obtain ⟨n, hn⟩ : ∃ n, n = la.length := ⟨_, rfl⟩
  have Hn := Lib.hid hn
  rw [← hn] at ha hla ⊢
  have Ha := Lib.hid ha
  have hhas := fun t => has_any _ lb t w hb hlb
  clear ha hb hn
  go_enter Tryz.func55, Tryz.ntmps55
  go_wp2
  go_loop [5] (fun u => ∃ k : Nat, k ≤ n ∧ u = .int .i64 k ∧ ∀ x ∈ la.take k, x ∈ lb) (fun u => n - (intOf u).toNat)
  case atStart => exact ⟨0, by omega, rfl, by simp⟩
  case round =>
    obtain ⟨k, hk, rfl, hall⟩ := hrel
    by_cases hlt : k < n
    · have hia := Ha.out
      rw [Hn.out] at hia
      obtain ⟨g, off, c', hv, hcell⟩ := hia.cells (by have := Hn.out; omega)
      obtain ⟨rfl, rfl⟩ : ao = some ⟨g, off, none⟩ ∧ c = c' := by simpa using hv
      have c0 := hcell k (by have := Hn.out; omega)
      obtain ⟨x, hx⟩ : ∃ x, x = la.getD k 0 := ⟨_, rfl⟩
      rw [← hx] at c0
      have Hx : Hid (∀ y, y ∈ la.take (k + 1) ↔ y ∈ la.take k ∨ y = x) := by rw [hx]; exact fun y => mem_take_succ (by have := Hn.out; omega) y
      have Hin : Hid (x ∈ la) := by
        have hkl : k < la.length := by have := Hn.out; omega
        show x ∈ la
        rw [hx]
        simp only [List.getD, List.getElem?_eq_getElem hkl, Option.getD_some]
        exact List.getElem_mem _
      have Hall := Lib.hid hall
      clear hia hcell hv hx hall Ha
      by_cases hxb : x ∈ lb
      · have hd : decide (x ∈ lb) = true := by simp [hxb]
        have Hxb := Lib.hid hxb
        clear hxb
        go_wp2_with (go_at_call 9; refine (hhas x).mono ?_; rintro e w1 ⟨rfl, rfl⟩; rw [hd])
        refine ⟨⟨k + 1, by omega, by go_num, ?_⟩, by simp [intOf]; omega⟩
        intro y hy
        rcases (Hx.out y).1 hy with h | h
        · exact Hall.out y h
        · rw [h]; exact Hxb.out
      · have hd : decide (x ∈ lb) = false := by simp [hxb]
        have Hm : Hid (decide (∀ x ∈ la, x ∈ lb) = false) := decide_eq_false (fun h => hxb (h x Hin.out))
        clear hxb
        go_wp2_with (go_at_call 9; refine (hhas x).mono ?_; rintro e w1 ⟨rfl, rfl⟩; rw [hd])
        go_ret
        exact ⟨by rw [Hm.out]; rfl, rfl⟩
    · obtain rfl : k = n := by omega
      have Hm : Hid (decide (∀ x ∈ la, x ∈ lb) = true) := decide_eq_true (by rw [List.take_of_length_le (by have := Hn.out; omega)] at hall; exact hall)
      clear hall Ha
      go_wp2
      go_ret
      exact ⟨by rw [Hm.out]; rfl, rfl⟩
end Go.Proofs.YtmphnoabkmoafaaGreatDoor
namespace Go.Proofs.YtmphnoabkmoafaaGreatDoor
open Go.RowKit
variable {uu0 : Unit} [Base uu0]
set_option maxRecDepth 100000 in
set_option maxHeartbeats 1600000 in
theorem refset_any (v : Value) (l : List Int) (w : World) (h : IntsAt w v l) (hl : l.length ≤ 1000000000000000) :
    Calls Tryz.prog 90 #[v] w fun e w' => e = .returned (.bool (setL l)) ∧ ∃ m, w' = w.drewN m := by
  obtain ⟨ao, c, rfl⟩ := h.shape
  obtain ⟨n, hn⟩ : ∃ n, n = l.length := ⟨_, rfl⟩
  have Hn := Lib.hid hn
  have H' : Hid (IntsAt w (.slice ao l.length c) l) := h
  rw [← hn] at hl H' ⊢
  clear hn h
  go_enter Tryz.func90, Tryz.ntmps90
  go_wp2
  go_loopw [3] (fun u wr => ∃ k m : Nat, k ≤ n ∧ u = .int .i64 k ∧ risesTo l k = true ∧ wr = w.drewN m) (fun u _ => n - (intOf u).toNat)
  case atStart => exact ⟨0, 0, by omega, rfl, rfl, rfl⟩
  case round =>
    obtain ⟨k, m, hk, rfl, hr, rfl⟩ := hrel
    by_cases hlt : k < n
    · have hia := H'.out
      rw [Hn.out] at hia
      obtain ⟨g, off, c', hv, hcell⟩ := hia.cells (by have := Hn.out; omega)
      obtain ⟨rfl, rfl⟩ : ao = some ⟨g, off, none⟩ ∧ c = c' := by simpa using hv
      have c0 : ∀ m, (w.drewN m).cell? ⟨g, off + k, none⟩ = some (.int .i64 (l.getD k 0)) := fun _ => hcell k (by have := Hn.out; omega)
      have hkl : k < l.length := by have := Hn.out; omega
      have Hkl := Lib.hid hkl
      have hstep : risesTo l (k + 1) = (decide (1 ≤ l.getD k 0) && decide (l.getD k 0 ≤ 2147483647) && (decide (k = 0) || decide (l.getD (k - 1) 0 < l.getD k 0))) := by
        rw [risesTo, hr]; rfl
      have c1 : 0 < k → ∀ m, (w.drewN m).cell? ⟨g, off + (k - 1), none⟩ = some (.int .i64 (l.getD (k - 1) 0)) := fun _ _ => hcell (k - 1) (by have := Hn.out; omega)
      obtain ⟨x, hx⟩ : ∃ x, x = l.getD k 0 := ⟨_, rfl⟩
      obtain ⟨y, hy⟩ : ∃ y, y = l.getD (k - 1) 0 := ⟨_, rfl⟩
      simp only [← hx] at c0
      simp only [← hy] at c1
      rw [← hx, ← hy] at hstep
      have Hs := Lib.hid hstep
      have C1 := Lib.hid c1
      clear hia hcell hv hx hy hr hstep c1 H' hkl
      have fin : ∀ b, risesTo l (k + 1) = false → b = false → b = setL l := fun b h1 h2 => by rw [setL_false Hkl.out h1, h2]
      have Fin := Lib.hid fin
      clear fin
      by_cases hx1 : x < 1
      · have d1 : decide (x < 1) = true := by simp [hx1]
        go_wp2
        go_quiet (fail)
        go_wp2
        go_ret
        refine ⟨?_, m + nq, World.drewN_drewN _ _ _⟩
        rw [← Fin.out false (by rw [Hs.out]; simp; omega) rfl]
        rfl
      · by_cases hx2 : x > 2147483647
        · have d1 : decide (x < 1) = false := by simp; omega
          have d2 : decide (x > 2147483647) = true := by simp; omega
          go_wp2
          go_quiet (fail)
          go_wp2
          go_ret
          refine ⟨?_, m + nq, World.drewN_drewN _ _ _⟩
          rw [← Fin.out false (by rw [Hs.out]; simp; omega) rfl]
          rfl
        · have d1 : decide (x < 1) = false := by simp; omega
          have d2 : decide (x > 2147483647) = false := by simp; omega
          rcases Nat.eq_zero_or_pos k with rfl | hk0
          · have c2 : ∀ m, (w.drewN m).cell? ⟨g, off, none⟩ = some (.int .i64 x) := c0
            go_wp2
            go_quiet (fail)
            go_wp2
            refine ⟨⟨1, m + nq, by omega, rfl, by rw [Hs.out]; simp; omega, rfl⟩, by simp [intOf]; omega⟩
          · obtain ⟨j, rfl⟩ : ∃ j, k = j + 1 := ⟨k - 1, by omega⟩
            have c2 : ∀ m, (w.drewN m).cell? ⟨g, off + j, none⟩ = some (.int .i64 y) := C1.out hk0
            have e2 : IntKind.i64.wrap (j : Int) = j := by simp [IntKind.wrap, IntKind.signed, IntKind.bits]; omega
            by_cases hxy : x ≤ y
            · have d3 : decide (x ≤ y) = true := by simp [hxy]
              go_wp2
              go_quiet (fail)
              go_wp2
              go_ret
              refine ⟨?_, m + nq, World.drewN_drewN _ _ _⟩
              rw [← Fin.out false (by rw [Hs.out]; simp; omega) rfl]
              rfl
            · have d3 : decide (x ≤ y) = false := by simp; omega
              go_wp2
              go_quiet (fail)
              go_wp2
              refine ⟨⟨j + 2, m + nq, by omega, by go_num, by rw [Hs.out]; simp; omega, rfl⟩, by simp [intOf]; omega⟩
    · obtain rfl : k = n := by omega
      have hs : setL l = decide (k ≤ 16) := by unfold setL; rw [← Hn.out, hr]; rfl
      have Hs := Lib.hid hs
      clear hs hr H'
      go_wp2
      go_ret
      rw [Hs.out]
      exact ⟨by simp; omega, m, rfl⟩
end Go.Proofs.YtmphnoabkmoafaaGreatDoor
namespace Go.Proofs.YtmphnoabkmoafaaGreatDoor
open Go.RowKit
variable {uu0 : Unit} [Base uu0]
theorem IntsAt.drop {w : World} {ao : Option Addr} {c k : Nat} {l : List Int} (h : IntsAt w (.slice ao l.length c) l) (g off : Nat) (hao : ao = some ⟨g, off, none⟩) (hk : k ≤ l.length) (hc : l.length ≤ c) : IntsAt w (.slice (some ⟨g, off + k, none⟩) (l.length - k) (c - k)) (l.drop k) := by
  subst hao
  rcases Nat.lt_or_ge k l.length with h1 | h1
  · obtain ⟨g', off', c', hv, hcell⟩ := h.cells (by omega)
    obtain ⟨⟨rfl, rfl⟩, rfl⟩ : (g = g' ∧ off = off') ∧ c = c' := by simpa using hv
    have hlt : Blk3 w g := by
      rcases h with ⟨rfl, _⟩ | ⟨g', off', c'', hv', _, _, h2, _⟩
      · simp at h1
      · obtain ⟨⟨rfl, rfl⟩, rfl⟩ : (g = g' ∧ off = off') ∧ c = c'' := by simpa using hv'
        exact h2
    refine .inr ⟨g, off + k, c - k, by rw [List.length_drop], by rw [List.length_drop]; omega, by rw [List.length_drop]; omega, hlt, fun j hj => ?_⟩
    rw [List.length_drop] at hj
    rw [Nat.add_assoc, hcell (k + j) (by omega)]
    simp [List.getD]
  · obtain rfl : k = l.length := by omega
    exact .inl ⟨by simp, _, _, by rw [Nat.sub_self], fun h => by cases h⟩
set_option maxRecDepth 100000 in
set_option maxHeartbeats 800000 in
theorem put_pos (g off c : Nat) (l : List Int) (t : Int) (w : World) (h : IntsAt w (.slice (some ⟨g, off, none⟩) l.length c) l) (h0 : 0 < l.length) (hl : l.length ≤ 1000000000) (hc : l.length ≤ c) (ht : ¬ t ∈ l) :
    Calls Tryz.prog 108 #[.slice (some ⟨g, off, none⟩) l.length c, .int .i64 t] w fun e w' => ∃ v' k, k ≤ l.length ∧ (∀ x ∈ l.take k, x < t) ∧ (k = l.length ∨ t < l.getD k 0) ∧ e = .returned v' ∧ w'.ownsRow w.heap.size 3 1 v' (l.length + 1) (lits (l.take k ++ [t] ++ l.drop k)) ∧ Below w.heap.size w w' := by
  obtain ⟨i0, hi, hz0, hz1, hz2⟩ := info_parts info3
  obtain ⟨n, hn⟩ : ∃ n, n = l.length := ⟨_, rfl⟩
  have Hn := Lib.hid hn
  have hgl : g < w.heap.size := by
    rcases h with ⟨rfl, _⟩ | ⟨g', off', c'', hv', _, _, h2, _⟩
    · simp at h0
    · obtain ⟨⟨rfl, rfl⟩, rfl⟩ : (g = g' ∧ off = off') ∧ c = c'' := by simpa using hv'
      exact h2.lt
  have hcell : ∀ j, j < n → w.cell? ⟨g, off + j, none⟩ = some (.int .i64 (l.getD j 0)) := by
    obtain ⟨g', off', c', hv, hcell⟩ := h.cells h0
    obtain ⟨⟨rfl, rfl⟩, rfl⟩ : (g = g' ∧ off = off') ∧ c = c' := by simpa using hv
    rw [hn]; exact hcell
  have hdrop := fun (W : World) (hb : Below w.heap.size w W) (k : Nat) (hk : k ≤ l.length) => (h.below hb (Nat.le_refl _)).drop g off rfl hk hc
  rw [← hn] at h0 hl hc hdrop ⊢
  have Hcell := Lib.hid hcell
  have Hdrop := Lib.hid hdrop
  have Ht := Lib.hid ht
  clear h hn hcell hdrop ht
  go_enter Tryz.func108, Tryz.ntmps108
  go_wp2
  go_loopw [5, 6] (fun u i wr => ∃ k : Nat, k ≤ n ∧ i = .int .i64 k ∧ (∀ x ∈ l.take k, x < t) ∧ wr.ownsRow w.heap.size 3 1 u k (lits (l.take k)) ∧ Below w.heap.size w wr) (fun _ i _ => n - (intOf i).toNat)
  case atStart => exact ⟨0, by omega, rfl, by simp, by simpa [lits] using World.ownsRow_nil _ _ _ _, Below.refl _ _⟩
  case round =>
    obtain ⟨k, hk, rfl, hall, hown, hbel⟩ := hrel
    obtain ⟨ao5, c5, rfl, _⟩ := owns_shape hown
    have hbs := hbel.size
    have Hall := Lib.hid hall
    clear hall
    by_cases hlt : k < n
    · have c0 : wr.cell? ⟨g, off + k, none⟩ = some (.int .i64 (l.getD k 0)) := (hbel.cell (p := ⟨g, off + k, none⟩) hgl).trans (Hcell.out k hlt)
      obtain ⟨x, hx⟩ : ∃ x, x = l.getD k 0 := ⟨_, rfl⟩
      rw [← hx] at c0
      have Hx := Lib.hid hx
      have hkl : k < l.length := by have := Hn.out; omega
      have Htk : Hid (l.take (k + 1) = l.take k ++ [x]) := by
        show _ = _
        rw [List.take_add_one, hx]; simp [List.getD, hkl]
      clear hx hkl
      by_cases hxt : x < t
      · have d1 : decide (x < t) = true := by simp [hxt]
        have Hxt := Lib.hid hxt
        clear hxt
        go_wp2_with ((with_reducible show wpList _ _ _ (⟨some 25, _, _, _, _, _⟩ :: _) _ _); go_must (refine wpList_append_ints rfl _ _ 30 rfl w.heap.size 3 i0 (.int .i64 0) und22 hi hz0 hz1 hz2 rfl _ k (l.take k) [x] rfl (hown.alloc _) _ rfl (IntsAt.new wr 3 [x] (by simp)) (by simp; omega) (by simp; omega) ?_; intro v4 w4 hown4 hg4 hn4; simp only [Act.put, List.setIfInBounds_toArray, List.set_cons_zero, List.set_cons_succ]))
        refine ⟨⟨k + 1, by omega, by go_num, ?_, by rw [Htk.out]; exact hown4, (hbel.alloc hbs _).grown hg4 (by simp; omega) (fun q hq => (hown.lt q hq).1)⟩, by simp [intOf]; omega⟩
        intro y hy
        rw [Htk.out] at hy
        rcases List.mem_append.1 hy with hy | hy
        · exact Hall.out y hy
        · rw [List.mem_singleton.1 hy]; exact Hxt.out
      · have d1 : decide (x < t) = false := by simp; omega
        have hne : ¬ x = t := fun e => Ht.out (by
          have hkl : k < l.length := by have := Hn.out; omega
          rw [← e, Hx.out]
          simp only [List.getD, List.getElem?_eq_getElem hkl, Option.getD_some]
          exact List.getElem_mem _)
        have d2 : (x == t) = false := by simp [hne]
        have Hxt : Hid (t < l.getD k 0) := by show t < l.getD k 0; rw [← Hx.out]; omega
        clear hne hxt
        go_wp2_with (first
          | ((with_reducible show wpList _ _ _ (⟨some 31, _, _, _, _, _⟩ :: _) _ _); go_must (refine wpList_append_ints rfl _ _ 30 rfl w.heap.size 3 i0 (.int .i64 0) und22 hi hz0 hz1 hz2 rfl _ k (l.take k) [t] rfl (hown.alloc _) _ rfl (IntsAt.new wr 3 [t] (by simp)) (by simp; omega) (by simp; omega) ?_; intro v4 w4 hown4 hg4 hn4; simp only [Act.put, List.setIfInBounds_toArray, List.set_cons_zero, List.set_cons_succ]; have hb4 : Below w.heap.size w w4 := (hbel.alloc hbs _).grown hg4 (by simp; omega) (fun q hq => (hown.lt q hq).1); have c1 : w4.cell? ⟨g, off + k, none⟩ = some (.int .i64 x) := (hb4.cell (p := ⟨g, off + k, none⟩) hgl).trans ((hbel.cell (p := ⟨g, off + k, none⟩) hgl).symm.trans c0)))
          | ((with_reducible show wpList _ _ _ (⟨some 50, _, _, _, _, _⟩ :: _) _ _); go_must (refine wpList_append_ints rfl _ _ 30 rfl w.heap.size 3 i0 (.int .i64 0) und22 hi hz0 hz1 hz2 rfl _ _ (l.take k ++ [t]) (l.drop k) rfl hown4 _ rfl (Hdrop.out w4 hb4 k (by have := Hn.out; omega)) (by simp [← Hn.out]; omega) hb4.size ?_; intro v5 w5 hown5 hg5 hn5; simp only [Act.put, List.setIfInBounds_toArray, List.set_cons_zero, List.set_cons_succ])))
        go_ret
        have el : k + [t].length + (l.drop k).length = n + 1 := by simp [← Hn.out]; omega
        exact ⟨v5, k, hk, Hall.out, .inr Hxt.out, rfl, by rw [← el]; exact hown5, hb4.grown hg5 hb4.size (fun q hq => (hown4.lt q hq).1)⟩
    · obtain rfl : k = n := by omega
      go_wp2_with (first
          | ((with_reducible show wpList _ _ _ (⟨some 31, _, _, _, _, _⟩ :: _) _ _); go_must (refine wpList_append_ints rfl _ _ 30 rfl w.heap.size 3 i0 (.int .i64 0) und22 hi hz0 hz1 hz2 rfl _ k (l.take k) [t] rfl (hown.alloc _) _ rfl (IntsAt.new wr 3 [t] (by simp)) (by simp; omega) (by simp; omega) ?_; intro v4 w4 hown4 hg4 hn4; simp only [Act.put, List.setIfInBounds_toArray, List.set_cons_zero, List.set_cons_succ]; have hb4 : Below w.heap.size w w4 := (hbel.alloc hbs _).grown hg4 (by simp; omega) (fun q hq => (hown.lt q hq).1)))
          | ((with_reducible show wpList _ _ _ (⟨some 50, _, _, _, _, _⟩ :: _) _ _); go_must (refine wpList_append_ints rfl _ _ 30 rfl w.heap.size 3 i0 (.int .i64 0) und22 hi hz0 hz1 hz2 rfl _ _ (l.take k ++ [t]) (l.drop k) rfl hown4 _ rfl (.inl ⟨List.drop_eq_nil_of_le (by have := Hn.out; omega), _, _, rfl, fun h => by revert h; cases instDecidableEqNat c k <;> intro h <;> cases h⟩) (by simp [← Hn.out]; omega) hb4.size ?_; intro v5 w5 hown5 hg5 hn5; simp only [Act.put, List.setIfInBounds_toArray, List.set_cons_zero, List.set_cons_succ])))
      all_goals
        go_ret
        have el : k + [t].length + (l.drop k).length = k + 1 := by have := Hn.out; rw [List.length_drop]; simp only [List.length_cons, List.length_nil]; omega
        exact ⟨v5, k, hk, Hall.out, .inl rfl, rfl, by rw [← el]; simpa only [List.append_assoc, List.singleton_append] using hown5, hb4.grown hg5 hb4.size (fun q hq => (hown4.lt q hq).1)⟩
set_option maxRecDepth 100000 in
theorem put_nil (t : Int) (w : World) : Calls Tryz.prog 108 #[.slice none 0 0, .int .i64 t] w fun e w' => ∃ v', e = .returned v' ∧ w'.ownsRow w.heap.size 3 1 v' 1 (lits [t]) ∧ Below w.heap.size w w' := by
  letI : Base () := ⟨0⟩
  obtain ⟨i0, hi, hz0, hz1, hz2⟩ := info_parts info3
  go_enter Tryz.func108, Tryz.ntmps108
  go_wp2
  go_loop [5, 6] (fun u i => u = .slice none 0 0 ∧ i = .int .i64 0) (fun _ _ => 0)
  case atStart => exact ⟨rfl, rfl⟩
  case round =>
    obtain ⟨rfl, rfl⟩ := hrel
    go_wp2_with (first
      | ((with_reducible show wpList _ _ _ (⟨some 31, _, _, _, _, _⟩ :: _) _ _); go_must (refine wpList_append_ints rfl _ _ 30 rfl w.heap.size 3 i0 (.int .i64 0) und22 hi hz0 hz1 hz2 rfl _ 0 [] [t] rfl (World.ownsRow_nil _ _ _ _) _ rfl (IntsAt.new w 3 [t] (by simp)) (by simp) (by simp) ?_; intro v4 w4 hown4 hg4 hn4; simp only [Act.put, List.setIfInBounds_toArray, List.set_cons_zero, List.set_cons_succ]; have hb4 : Below w.heap.size w w4 := ((Below.refl w.heap.size w).alloc (Nat.le_refl _) _).grown hg4 (by simp) (fun q hq => by cases hq)))
      | ((with_reducible show wpList _ _ _ (⟨some 50, _, _, _, _, _⟩ :: _) _ _); go_must (refine wpList_append_ints rfl _ _ 30 rfl w.heap.size 3 i0 (.int .i64 0) und22 hi hz0 hz1 hz2 rfl _ _ ([] ++ [t]) [] rfl hown4 _ rfl (IntsAt.nil _) (by simp) hb4.size ?_; intro v5 w5 hown5 hg5 hn5; simp only [Act.put, List.setIfInBounds_toArray, List.set_cons_zero, List.set_cons_succ])))
    go_ret
    exact ⟨v5, rfl, hown5, hb4.grown hg5 hb4.size (fun q hq => (hown4.lt q hq).1)⟩
end Go.Proofs.YtmphnoabkmoafaaGreatDoor
