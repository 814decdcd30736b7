/- label.Sub, May, Flows. -/
import Derived.Test.YtmphnoabkmoafaaDoorSome
namespace Go.Proofs.YtmphnoabkmoafaaDoor
open Go.RowKit
theorem sub_any (a b : Value) (la lb : List Int) (w : World) (ha : IntsAt w a la) (hb : IntsAt w b lb) (hla : la.length ≤ 17592186043904) (hlb : lb.length ≤ 17592186043904) :
    Calls Tryd.prog 51 #[a, b] w fun e w' => e = .returned (.bool (decide (∀ x ∈ la, x ∈ lb))) ∧ Below w.heap.size w w' := by
  have hsome := someOut_any a b la lb w ha hb hla hlb
  have hlen : ∀ l : List Int, l = la.filter (fun x => !decide (x ∈ lb)) → decide (l.length = 0) = decide (∀ x ∈ la, x ∈ lb) := by
    rintro l rfl
    apply decide_eq_decide.2
    rw [List.length_eq_zero_iff, List.filter_eq_nil_iff]
    simp
  obtain ⟨l, hl⟩ : ∃ l, l = la.filter (fun x => !decide (x ∈ lb)) := ⟨_, rfl⟩
  have Hl := Lib.hid (hlen l hl)
  have hle : l.length ≤ la.length := by rw [hl]; exact List.length_filter_le _ _
  rw [← hl] at hsome
  obtain ⟨aoa, ca, rfl⟩ := ha.shape
  obtain ⟨aob, cb, rfl⟩ := hb.shape
  clear hlen hl ha hb
  go_enter Tryd.func51, Tryd.ntmps51
  go_wp2_with (go_at_call 55; refine hsome.mono ?_; rintro e w1 ⟨v1, rfl, h1, hb1⟩; obtain ⟨ao1, c1, rfl⟩ := h1.shape)
  go_ret
  exact ⟨by rw [← Hl.out]; rcases l with _ | ⟨x, l⟩ <;> simp <;> omega, hb1⟩
theorem may_any (a b : Value) (la lb : List Int) (w : World) (ha : IntsAt w a la) (hb : IntsAt w b lb) (hla : la.length ≤ 17592186043904) (hlb : lb.length ≤ 17592186043904) :
    Calls Tryd.prog 36 #[.agg #[a, b]] w fun e w' => e = .returned (.bool (setL la && setL lb)) ∧ Below w.heap.size w w' := by
  have hbel : Below w.heap.size w (w.alloc (.cells #[a, b] 41)) := (Below.refl _ _).alloc (Nat.le_refl _) _
  have h1 := set_any a la _ (ha.alloc (.cells #[a, b] 41)) (by omega)
  have h2 := set_any b lb _ (hb.alloc (.cells #[a, b] 41)) (by omega)
  obtain ⟨aoa, ca, rfl⟩ := ha.shape
  obtain ⟨aob, cb, rfl⟩ := hb.shape
  obtain ⟨sa, hsa⟩ : ∃ s, s = setL la := ⟨_, rfl⟩
  obtain ⟨sb, hsb⟩ : ∃ s, s = setL lb := ⟨_, rfl⟩
  rw [← hsa] at h1 ⊢
  rw [← hsb] at h2 ⊢
  have H2 := Lib.hid h2
  clear hsa hsb ha hb h2
  go_enter Tryd.func36, Tryd.ntmps36
  go_wp2_with (go_at_call 43; refine h1.mono ?_; rintro e w1 ⟨rfl, rfl⟩; replace h1 := H2.out)
  all_goals
    go_ret
    rename_i hs
    exact ⟨by simp [hs], hbel⟩
/-- One set within another. -/
def subL (la lb : List Int) : Bool := decide (∀ x ∈ la, x ∈ lb)
set_option maxRecDepth 100000 in
set_option maxHeartbeats 2000000 in
theorem flows_any (a b c d : Value) (la lb lc ld : List Int) (w : World) (ha : IntsAt w a la) (hb : IntsAt w b lb) (hc : IntsAt w c lc) (hd : IntsAt w d ld) (hla : la.length ≤ 17592186043904) (hlb : lb.length ≤ 17592186043904) (hlc : lc.length ≤ 17592186043904) (hld : ld.length ≤ 17592186043904) :
    Calls Tryd.prog 31 #[.agg #[a, b], .agg #[c, d]] w fun e w' => e = .returned (.bool (subL la lc && subL ld lb)) ∧ Below w.heap.size w w' := by
  obtain ⟨W, hW⟩ : ∃ W, W = ((w.alloc (.cells #[a, b] 41)).alloc (.cells #[c, d] 41)) := ⟨_, rfl⟩
  have hbel : Below w.heap.size w W := by rw [hW]; exact ((Below.refl _ _).alloc (Nat.le_refl _) _).alloc (by simp) _
  have e1 : (w.alloc (Obj.cells #[a, b] 41)).heap.size = w.heap.size + 1 := by simp
  have hWs : W.heap.size = w.heap.size + 2 := by rw [hW]; simp
  have hB2 : W.heap[w.heap.size + 1]? = some (.cells #[c, d] 41 (0, 0)) := by rw [hW, ← e1]; exact heap_alloc_new _ _
  have hB1 : W.heap[w.heap.size]? = some (.cells #[a, b] 41 (0, 0)) := by rw [hW, Go.RowKit.Below.heap_alloc _ _ _ (by simp)]; exact heap_alloc_new _ _
  have c0 : W.cell? ⟨w.heap.size, 1, none⟩ = some b := by rw [cell_of_row W _ 1 _ 41 (0, 0) hB1]; rfl
  have c1 : W.cell? ⟨w.heap.size + 1, 1, none⟩ = some d := by rw [cell_of_row W _ 1 _ 41 (0, 0) hB2]; rfl
  have hb' := hb.below hbel (Nat.le_refl _)
  have hd' := hd.below hbel (Nat.le_refl _)
  have h1 := sub_any a c la lc W (ha.below hbel (Nat.le_refl _)) (hc.below hbel (Nat.le_refl _)) hla hlc
  obtain ⟨aoa, ca, rfl⟩ := ha.shape
  obtain ⟨aob, cb, rfl⟩ := hb.shape
  obtain ⟨aoc, cc, rfl⟩ := hc.shape
  obtain ⟨aod, cd, rfl⟩ := hd.shape
  obtain ⟨s1, hs1⟩ : ∃ s, s = subL la lc := ⟨_, rfl⟩
  obtain ⟨s2, hs2⟩ : ∃ s, s = subL ld lb := ⟨_, rfl⟩
  have h2 := fun w1 (h : Below W.heap.size W w1) => sub_any _ _ ld lb w1 (hd'.below h (Nat.le_refl _)) (hb'.below h (Nat.le_refl _)) hld hlb
  rw [show decide (∀ x ∈ la, x ∈ lc) = s1 from hs1.symm] at h1
  rw [show decide (∀ x ∈ ld, x ∈ lb) = s2 from hs2.symm] at h2
  rw [← hs1, ← hs2]
  subst hW
  have H2 := Lib.hid h2
  clear hs1 hs2 ha hb hc hd h2 hB1 hB2 hb' hd'
  go_enter Tryd.func31, Tryd.ntmps31
  go_wp2_with (first
    | (go_at_call 51; refine h1.mono ?_; rintro e w1 ⟨rfl, hb1⟩; clear h1; have d0 := (hb1.cell (p := ⟨w.heap.size, 1, none⟩) (by rw [hWs]; simp only; omega)).trans c0; have d1 := (hb1.cell (p := ⟨w.heap.size + 1, 1, none⟩) (by rw [hWs]; simp only; omega)).trans c1)
    | (go_at_call 51; refine (H2.out w1 hb1).mono ?_; rintro e w2 ⟨rfl, hb2⟩))
  all_goals
    go_ret
    have hs := hb1.size
    rename_i hx
  · exact ⟨by simp [hx], (hbel.trans (hb1.mono (by rw [hWs]; omega))).trans (hb2.mono (by rw [hWs] at hs; omega))⟩
  · exact ⟨by simp [hx], hbel.trans (hb1.mono (by rw [hWs]; omega))⟩
end Go.Proofs.YtmphnoabkmoafaaDoor
