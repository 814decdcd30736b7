/- label.Norm: a list in order, each tag once. -/
import Derived.Test.YtmphnoabkmoafaaGreatDoorM5
import Derived.Lib.OwnBridge
import Derived.Lib.RowBridge
import Derived.Sort.OwnSortedInts
namespace Go.Proofs.YtmphnoabkmoafaaGreatDoor
open Go.RowKit Go.Shelf Go.Sort Go.Lib
variable {uu0 : Unit} [Base uu0]
def sortL (l : List Int) : List Int := l.mergeSort fun x y => decide (x ≤ y)
def normL (l : List Int) : List Int := Lib.compact (sortL l)
theorem sortL_length (l : List Int) : (sortL l).length = l.length := List.length_mergeSort l
theorem normL_length (l : List Int) : (normL l).length ≤ l.length := by
  have := Lib.compact_length_le (sortL l)
  rw [sortL_length] at this
  exact this
/-- What Clone, Sort and Compact leave. -/
theorem norm_left {w w1 : World} {g cap nn q : Nat} {os : Array Obj} {l : List Int} (hown : w1.ownsRow w.heap.size 3 1 (.slice (some ⟨g, 0, none⟩) l.length cap) l.length (l.map (Value.int .i64))) (hbel : Below w.heap.size w w1) (hbg : w.heap.size ≤ g) :
    (putRow (Value.int .i64) (Sort.ahead (grow (putRow (Value.int .i64) (Sort.ahead w1 nn) g 0 (sortL l).toArray) os) q) g 0 (normL l ++ List.replicate (l.length - (normL l).length) 0).toArray).ownsRow w.heap.size 3 1 (.slice (some ⟨g, 0, none⟩) (normL l).length cap) (normL l).length (lits (normL l)) ∧
    Below w.heap.size w (putRow (Value.int .i64) (Sort.ahead (grow (putRow (Value.int .i64) (Sort.ahead w1 nn) g 0 (sortL l).toArray) os) q) g 0 (normL l ++ List.replicate (l.length - (normL l).length) 0).toArray) := by
  have hl2 := sortL_length l
  have hle := normL_length l
  rcases hown.2 with ⟨h0, _⟩ | ⟨g', cap', cur, hv, hbase, hb, h1, h2, h3, h4⟩
  · cases h0
  cases hv
  have hs := ownsRow_sortedI (n := nn) (os := os) (ts := sortL l) hl2 hbase hb h1 h2 h3
  have hc := Lib.ownsRow_putRow (q := q) (k := (normL l).length) (ys := normL l ++ List.replicate (l.length - (normL l).length) 0) hs (by simp; omega) (by omega)
  rw [List.take_left] at hc
  exact ⟨hc, Lib.below_putRow (hbel.grown (grownBy_sortedI _) hbel.size (fun j hj => by cases hj; exact hbase)) hbg⟩
/-- What Norm hands back. -/
def normV (l : List Int) : List Int := if setL (normL l) then normL l else []
set_option maxRecDepth 100000 in
set_option maxHeartbeats 2000000 in
theorem norm_pos (g0 off c : Nat) (l : List Int) (w : World) (h0 : 0 < l.length) (hl : l.length ≤ 17592186043904) (hcell : ∀ j, j < l.length → w.cell? ⟨g0, off + j, none⟩ = some (.int .i64 (l.getD j 0))) :
    Calls Tryz.prog 58 #[.slice (some ⟨g0, off, none⟩) l.length c] w fun e w' => ∃ v', e = .returned (.tuple #[v', .bool (setL (normL l))]) ∧ IntsAt w' v' (normV l) ∧ Below w.heap.size w w' := by
  have hclone := Tryz.slices_Clone_int g0 off l.length c l w (Nat.le_refl _) (by omega) hcell
  rw [List.take_length] at hclone
  have hnl := normL_length l
  obtain ⟨n, hn⟩ : ∃ n, n = l.length := ⟨_, rfl⟩
  have Hn := Lib.hid hn
  have hV : setL (normL l) = true → normV l = normL l := fun h => by unfold normV; rw [if_pos h]
  have hV' : setL (normL l) = false → normV l = [] := fun h => by unfold normV; rw [if_neg (by simp [h])]
  obtain ⟨s, hs⟩ : ∃ s, s = setL (normL l) := ⟨_, rfl⟩
  rw [← hs] at hV hV' ⊢
  have HV := Lib.hid hV
  have HV' := Lib.hid hV'
  have Hs := Lib.hid hs
  rw [← hn] at hclone h0 hl hnl ⊢
  clear hn hcell hV hV' hs
  go_enter Tryz.func58, Tryz.ntmps58
  go_wp2_with (first
    | (go_at_call 61; refine hclone.mono ?_; rintro e w1 ⟨v1, rfl, hown, hnn, hbel⟩
       obtain ⟨g, cap, rfl, hbg, hgl, hncap, hcm, hlen, hH⟩ := Lib.holds_of_ownsRow hown hnn
       have hsort := Tryz.slices_Sort_int g 0 cap l w1 hH hgl (by omega)
       rw [hlen] at hsort
       have X : Aside (w1.ownsRow w.heap.size 3 1 (.slice (some ⟨g, 0, none⟩) n cap) n (l.map (Value.int .i64)) ∧ Below w.heap.size w w1 ∧ w.heap.size ≤ g ∧ g < w1.heap.size ∧ n ≤ cap ∧ cap ≤ maxLen ∧ l.length = n ∧ Holds (Value.int .i64) w1 g 0 l.toArray) := ⟨hown, hbel, hbg, hgl, hncap, hcm, hlen, hH⟩
       clear hown hbel hH hnn hclone)
    | (go_at_call 93; refine hsort.mono ?_; rintro e w2 ⟨rfl, nn, os, rfl⟩
       have hl2 : (sortL l).length = n := by rw [sortL_length]; exact X.out.2.2.2.2.2.2.1
       have hH2 : Holds (Value.int .i64) (grow (putRow (Value.int .i64) (Sort.ahead w1 nn) g 0 (sortL l).toArray) os) g 0 (sortL l).toArray :=
         holds_grow (Value.int .i64) _ os g 0 _ (by simpa [putRow, mapBlock, Sort.ahead] using X.out.2.2.2.1) (holds_putRow (Value.int .i64) _ g 0 _ _ (holds_ahead (Value.int .i64) w1 nn g 0 _ X.out.2.2.2.2.2.2.2) (by simp [sortL_length]))
       have hcomp := Tryz.slices_Compact_int g 0 cap (sortL l) _ hH2 (by omega) (by have := X.out.2.2.2.2.1; omega)
       rw [hl2] at hcomp
       clear hH2 hsort)
    | (go_at_call 94; refine hcomp.mono ?_; rintro e w3 ⟨rfl, q, rfl⟩
       have hL := norm_left (w := w) (w1 := w1) (g := g) (cap := cap) (nn := nn) (q := q) (os := os) (l := l) (by rw [← Hn.out]; exact X.out.1) X.out.2.1 X.out.2.2.1
       rw [← Hn.out] at hL
       rw [show Lib.compact (sortL l) = normL l from rfl]
       obtain ⟨hL1, hL2⟩ := hL
       generalize hW3 : putRow (Value.int .i64) _ g 0 (normL l ++ _).toArray = W3 at hL1 hL2 ⊢
       clear hW3 hcomp)
    | (go_at_call 60; go_loud (refine (clip_any _ (normL l) _ (IntsAt.of_owns hL1) (by omega) (owns_le hL1)).mono ?_; rintro e w4 ⟨v4, rfl, h4, rfl⟩; obtain ⟨ao4, c4, rfl⟩ := h4.shape))
    | (go_at_call 57; go_loud (refine (set_any _ (normL l) _ h4 (by omega)).mono ?_; rintro e w5 ⟨rfl, rfl⟩; rw [← Hs.out])))
  all_goals
    go_ret2
    rename_i hx
    first
      | (obtain rfl : s = false := by simpa using hx
         exact ⟨_, rfl, by rw [HV'.out rfl]; exact IntsAt.nil _, hL2⟩)
      | (obtain rfl : s = true := by simpa using hx
         exact ⟨_, rfl, by rw [HV.out rfl]; exact h4, hL2⟩)
theorem norm_nil : normL [] = [] := List.eq_nil_of_length_eq_zero (by simpa using normL_length [])
theorem setL_nil : setL [] = true := rfl
theorem normV_nil : normV [] = [] := by unfold normV; rw [norm_nil]; rfl
set_option maxRecDepth 100000 in
theorem norm_any (v : Value) (l : List Int) (w : World) (h : IntsAt w v l) (hl : l.length ≤ 17592186043904) :
    Calls Tryz.prog 58 #[v] w fun e w' => ∃ v', e = .returned (.tuple #[v', .bool (setL (normL l))]) ∧ IntsAt w' v' (normV l) ∧ Below w.heap.size w w' := by
  rcases h with ⟨rfl, ao, c, rfl, hc⟩ | ⟨g, off, c, rfl, h0, _, _, hcell⟩
  · rw [norm_nil, setL_nil, normV_nil]
    have hn : ∀ (w1 : World) (ao : Option Addr) (c : Nat), IntsAt w1 (.slice ao 0 c) [] → (∀ ao' n' c', Value.slice ao 0 c = .slice ao' n' c' → n' ≤ c' ∧ c' ≤ maxLen) → Calls Tryz.prog 60 #[.slice ao 0 c] w1 fun e w' => ∃ v', e = .returned v' ∧ IntsAt w1 v' [] ∧ w' = w1 := fun w1 ao c h hm => clip_any _ [] w1 h (by simp) hm
    cases ao with
    | none =>
      obtain rfl := hc rfl
      go_enter Tryz.func58, Tryz.ntmps58
      go_wp2_with (first
        | (go_at_call 61; refine (Tryz.slices_Clone_int_nil 0 0 w).mono ?_; rintro e w1 ⟨rfl, rfl⟩)
        | (go_at_call 93; refine (Tryz.slices_Sort_int_none none 0 _).mono ?_; rintro e w2 ⟨rfl, rfl⟩)
        | (go_at_call 94; refine (Tryz.slices_Compact_int_empty none 0 _).mono ?_; rintro e w3 ⟨rfl, rfl⟩)
        | (go_at_call 60; refine (hn _ none 0 (IntsAt.nil _) (fun _ _ _ h => by cases h; exact ⟨Nat.le_refl _, Nat.zero_le _⟩)).mono ?_; rintro e w4 ⟨v4, rfl, h4, rfl⟩; obtain ⟨ao4, c4, rfl⟩ := h4.shape)
        | (go_at_call 57; refine (set_any _ [] _ h4 (by simp)).mono ?_; rintro e w5 ⟨rfl, rfl⟩; rw [setL_nil]))
      go_ret2
      exact ⟨_, rfl, h4, Below.refl _ _⟩
    | some ad =>
      go_enter Tryz.func58, Tryz.ntmps58
      go_wp2_with (first
        | (go_at_call 61; refine (Tryz.slices_Clone_int_zero ad c w).mono ?_; rintro e w1 ⟨v1, rfl, hown, _, hbel⟩; have hle := owns_le hown; obtain ⟨ao1, c1, rfl, _, hc1⟩ := owns_shape hown)
        | (go_at_call 93; refine (Tryz.slices_Sort_int_none ao1 c1 _).mono ?_; rintro e w2 ⟨rfl, rfl⟩)
        | (go_at_call 94; refine (Tryz.slices_Compact_int_empty ao1 c1 _).mono ?_; rintro e w3 ⟨rfl, rfl⟩)
        | (go_at_call 60; refine (hn _ ao1 c1 (.inl ⟨rfl, ao1, c1, rfl, hc1⟩) hle).mono ?_; rintro e w4 ⟨v4, rfl, h4, rfl⟩; obtain ⟨ao4, c4, rfl⟩ := h4.shape)
        | (go_at_call 57; refine (set_any _ [] _ h4 (by simp)).mono ?_; rintro e w5 ⟨rfl, rfl⟩; rw [setL_nil]))
      go_ret2
      exact ⟨_, rfl, h4, hbel⟩
  · exact norm_pos g off c l w h0 hl hcell
end Go.Proofs.YtmphnoabkmoafaaGreatDoor
