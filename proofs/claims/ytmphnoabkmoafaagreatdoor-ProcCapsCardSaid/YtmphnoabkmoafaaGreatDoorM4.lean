/- label.some, Sub, May, Clip: what of a list another one has, or has not. -/
import Derived.Test.YtmphnoabkmoafaaGreatDoorM2
import Derived.Test.YtmphnoabkmoafaaGreatDoorM3
namespace Go.Proofs.YtmphnoabkmoafaaGreatDoor
open Go.RowKit
variable {uu0 : Unit} [Base uu0]
theorem info3 : (Tryz.prog.info? 3).map (fun i => (i.zero, i.size, i.bytes)) = some (some (.int .i64 0), 1, 8) := by kernel_rfl
theorem und22 : Tryz.prog.underlying 30 = some (.slice 3) := by kernel_rfl
theorem contains_any (v : Value) (l : List Int) (x : Int) (w : World) (h : IntsAt w v l) (hl : l.length ≤ 4611686018427387904) :
    Calls Tryz.prog 112 #[v, .int .i64 x] w fun e w' => e = .returned (.bool (decide (x ∈ l))) ∧ w' = w := by
  rcases h with ⟨rfl, ao, c, rfl, _⟩ | ⟨g, off, c, rfl, _, _, _, hc⟩
  · simpa using Tryz.slices_Contains_int_empty ao c x w
  · have := Tryz.slices_Contains_int g off l.length c l x w (Nat.le_refl _) (by omega) hc
    rw [List.take_length] at this
    simpa using this
theorem out_any (v : Value) (l : List Int) (x : Int) (w : World) (h : IntsAt w v l) (hl : l.length ≤ 4611686018427387904) :
    Calls Tryz.prog 100 #[v, .int .i64 x] w fun e w' => e = .returned (.bool (!decide (x ∈ l))) ∧ w' = w := by
  obtain ⟨ao, c, rfl⟩ := h.shape
  go_enter Tryz.func100, Tryz.ntmps100
  go_wp2_with (go_at_call 112; refine (contains_any _ l x _ h hl).mono ?_; rintro e w1 ⟨rfl, rfl⟩)
  go_ret
  exact ⟨rfl, rfl⟩
theorem clip_any (v : Value) (l : List Int) (w : World) (h : IntsAt w v l) (hl : l.length ≤ 4611686018427387904) (hm : ∀ ao n c, v = .slice ao n c → n ≤ c ∧ c ≤ maxLen) :
    Calls Tryz.prog 60 #[v] w fun e w' => ∃ v', e = .returned v' ∧ IntsAt w v' l ∧ w' = w := by
  obtain ⟨ao, c, rfl⟩ := h.shape
  obtain ⟨h1, h2⟩ := hm _ _ _ rfl
  unfold maxLen at h2
  cases ao with
  | none =>
    rcases h with ⟨rfl, ao, c', hv, hc⟩ | ⟨g, off, c', hv, _⟩
    · obtain ⟨rfl, rfl⟩ : ao = none ∧ c = c' := by simp at hv; exact ⟨hv.1.symm, hv.2⟩
      obtain rfl := hc rfl
      go_enter Tryz.func60, Tryz.ntmps60
      go_wp2
      go_ret
      exact ⟨_, rfl, .inl ⟨rfl, none, 0, rfl, fun _ => rfl⟩, rfl⟩
    · cases hv
  | some ad =>
    obtain ⟨b, o, sp⟩ := ad
    have hi : ∀ v' : Value, v' = .slice (some ⟨b, o, sp⟩) l.length l.length → IntsAt w v' l := by
      intro v' hv'
      rcases h with ⟨hl0, ao, c', hv, hc⟩ | ⟨g, off, c', hv, k0, k1, k2, k3⟩
      · exact .inl ⟨hl0, some ⟨b, o, sp⟩, 0, by rw [hv', hl0]; rfl, fun h => by cases h⟩
      · obtain ⟨⟨rfl, rfl, rfl⟩, rfl⟩ : (b = g ∧ o = off ∧ sp = none) ∧ c = c' := by simpa using hv
        exact .inr ⟨b, o, l.length, hv', k0, Nat.le_refl _, k2, k3⟩
    clear h hm
    obtain ⟨n, hn⟩ : ∃ n, n = l.length := ⟨_, rfl⟩
    rw [← hn] at h1 hl hi ⊢
    clear hn
    go_enter Tryz.func60, Tryz.ntmps60
    go_wp2
    go_ret
    exact ⟨_, rfl, hi _ rfl, rfl⟩
theorem owns_le {w : World} {base : Nat} {e : TypeId} {sz n : Nat} {v : Value} {xs : List Value} (h : w.ownsRow base e sz v n xs) : ∀ ao n' c, v = .slice ao n' c → n' ≤ c ∧ c ≤ maxLen := by
  intro ao n' c hv
  rcases h.2 with ⟨rfl, rfl⟩ | ⟨g, cap, cur, rfl, _, _, hnc, hm, _⟩
  · cases hv; exact ⟨Nat.le_refl _, Nat.zero_le _⟩
  · cases hv; exact ⟨hnc, hm⟩
set_option maxRecDepth 100000 in
set_option maxHeartbeats 2000000 in
theorem someOut_any (a b : Value) (la lb : List Int) (w : World) (ha : IntsAt w a la) (hb : IntsAt w b lb) (hla : la.length ≤ 17592186043904) (hlb : lb.length ≤ 17592186043904) :
    Calls Tryz.prog 99 #[a, b, .func (.func 100) #[] #[]] w fun e w' => ∃ v', e = .returned v' ∧ IntsAt w' v' (la.filter (fun x => !decide (x ∈ lb))) ∧ Below w.heap.size w w' := by
  obtain ⟨i0, hi, hz0, hz1, hz2⟩ := info_parts info3
  obtain ⟨aoa, ca, rfl⟩ := ha.shape
  obtain ⟨aob, cb, rfl⟩ := hb.shape
  go_enter Tryz.func99, Tryz.ntmps99
  go_wp2
  go_loopw [7, 12] (fun u i wr => ∃ k n : Nat, k ≤ la.length ∧ n ≤ k ∧ i = .int .i64 k ∧ wr.ownsRow w.heap.size 3 1 u n (lits ((la.take k).filter (fun x => !decide (x ∈ lb)))) ∧ Below w.heap.size w wr) (fun _ i _ => la.length - (intOf i).toNat)
  case atStart => exact ⟨0, 0, by omega, by omega, rfl, by simpa [lits] using World.ownsRow_nil _ _ _ _, Below.refl _ _⟩
  case round =>
    obtain ⟨k, n, hk, hnk, rfl, hown, hbel⟩ := hrel
    obtain ⟨ao7, c7, rfl, hc7, _⟩ := owns_shape hown
    by_cases hlt : k < la.length
    · obtain ⟨g, off, c', hv, hcell⟩ := ha.cells (by omega)
      obtain ⟨rfl, rfl⟩ : aoa = some ⟨g, off, none⟩ ∧ ca = c' := by simpa using hv
      have hgl : g < w.heap.size := by
        rcases ha with ⟨h0, _⟩ | ⟨g', off', c'', hv', _, _, h2, _⟩
        · rw [h0] at hlt; simp at hlt
        · obtain ⟨⟨rfl, rfl⟩, rfl⟩ : (g = g' ∧ off = off') ∧ ca = c'' := by simpa using hv'
          exact h2.lt
      have c0 : wr.cell? ⟨g, off + k, none⟩ = some (.int .i64 (la.getD k 0)) := (hbel.cell (p := ⟨g, off + k, none⟩) (by simpa using hgl)).trans (hcell k hlt)
      obtain ⟨x, hx⟩ : ∃ x, x = la.getD k 0 := ⟨_, rfl⟩
      rw [← hx] at c0
      have htk : (la.take (k + 1)).filter (fun x => !decide (x ∈ lb)) = (la.take k).filter (fun x => !decide (x ∈ lb)) ++ (if (fun x => !decide (x ∈ lb)) x then [x] else []) := by
        have e : la.take (k + 1) = la.take k ++ [x] := by
          rw [List.take_add_one, hx]; simp [List.getD, hlt]
        rw [e, List.filter_append, List.filter_cons, List.filter_nil]
      have hbw := hb.below hbel (Nat.le_refl _)
      obtain ⟨m, hm⟩ : ∃ m, m = la.length := ⟨_, rfl⟩
      have Htk := Lib.hid htk
      have Hown := Lib.hid hown
      have hbs := hbel.size
      clear hcell hv htk hx ha hb
      rw [← hm] at hla hlt hk ⊢
      have Hm := Lib.hid hm
      clear hm
      go_wp2_with (first
        | (go_at_call 100; refine (out_any _ lb x _ hbw (by omega)).mono ?_; rintro e w1 ⟨rfl, rfl⟩)
        | ((with_reducible show wpList _ _ _ (⟨some 23, _, _, _, _, _⟩ :: _) _ _); go_must (refine wpList_append_ints rfl _ _ 30 rfl w.heap.size 3 i0 (.int .i64 0) und22 hi hz0 hz1 hz2 rfl _ n ((la.take k).filter (fun x => !decide (x ∈ lb))) [x] rfl (Hown.out.alloc _) _ rfl (IntsAt.new w1 3 [x] (by simp)) (by simp; omega) (by simp; omega) ?_; intro v4 w4 hown4 hg4 hn4; simp only [Act.put, List.setIfInBounds_toArray, List.set_cons_zero, List.set_cons_succ])))
      all_goals refine ⟨?_, by simp [intOf]; omega⟩
      · rename_i hin
        exact ⟨k + 1, n + 1, by omega, by omega, by go_num, by rw [Htk.out, if_pos (by simpa using hin)]; exact hown4, (hbel.alloc hbs _).grown hg4 (by simp; omega) (fun k hk => (Hown.out.lt k hk).1)⟩
      · rename_i hin
        exact ⟨k + 1, n, by omega, by omega, by go_num, by rw [Htk.out, if_neg (by simpa using hin), List.append_nil]; exact hown, hbel⟩
    · obtain rfl : k = la.length := by omega
      rw [List.take_length] at hown
      have hle := owns_le hown
      have hat := IntsAt.of_owns hown
      have hln : (la.filter (fun x => !decide (x ∈ lb))).length = n := by simpa [lits] using hown.1
      obtain ⟨m, hm⟩ : ∃ m, m = la.length := ⟨_, rfl⟩
      have Hown := Lib.hid hown
      clear ha hb hown
      rw [← hm] at hla hk hnk ⊢
      clear hm
      go_wp2_with (go_at_call 60; refine (clip_any _ _ _ hat (by omega) hle).mono ?_; rintro e w2 ⟨v2, rfl, h2, rfl⟩)
      go_ret
      exact ⟨_, rfl, h2, hbel⟩
end Go.Proofs.YtmphnoabkmoafaaGreatDoor
