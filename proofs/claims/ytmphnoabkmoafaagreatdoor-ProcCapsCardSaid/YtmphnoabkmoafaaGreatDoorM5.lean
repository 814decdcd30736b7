/- label.Sub, May, Flows. slices.Grow's contract at this program's numbers, laid by the kit's tools. slices.Concat of two lists. -/
import Derived.Test.YtmphnoabkmoafaaGreatDoorM4
import Derived.Shelf.Spec.SlicesGrow
import Derived.Ground.Names8Prog
import Derived.Test.YtmphnoabkmoafaaGreatDoorProg
namespace Go.Proofs.YtmphnoabkmoafaaGreatDoor
open Go.RowKit
variable {uu0 : Unit} [Base uu0]
theorem sub_any (a b : Value) (la lb : List Int) (w : World) (ha : IntsAt w a la) (hb : IntsAt w b lb) (hla : la.length ≤ 17592186043904) (hlb : lb.length ≤ 17592186043904) :
    Calls Tryz.prog 97 #[a, b] w fun e w' => e = .returned (.bool (decide (∀ x ∈ la, x ∈ lb))) ∧ Below w.heap.size w w' := by
  have hsome := someOut_any a b la lb w ha hb hla hlb
  have hlen : ∀ l : List Int, l = la.filter (fun x => !decide (x ∈ lb)) → decide (l.length = 0) = decide (∀ x ∈ la, x ∈ lb) := by
    rintro l rfl
    apply decide_eq_decide.2
    rw [List.length_eq_zero_iff, List.filter_eq_nil_iff]
    simp
  obtain ⟨l, hl⟩ : ∃ l, l = la.filter (fun x => !decide (x ∈ lb)) := ⟨_, rfl⟩
  have Hl := Lib.hid (hlen l hl)
  have hle : l.length ≤ la.length := by rw [hl]; exact List.length_filter_le _ _
  rw [← hl] at hsome
  obtain ⟨aoa, ca, rfl⟩ := ha.shape
  obtain ⟨aob, cb, rfl⟩ := hb.shape
  clear hlen hl ha hb
  go_enter Tryz.func97, Tryz.ntmps97
  go_wp2_with (go_at_call 99; refine hsome.mono ?_; rintro e w1 ⟨v1, rfl, h1, hb1⟩; obtain ⟨ao1, c1, rfl⟩ := h1.shape)
  go_ret
  exact ⟨by rw [← Hl.out]; rcases l with _ | ⟨x, l⟩ <;> simp <;> omega, hb1⟩
theorem may_any (a b : Value) (la lb : List Int) (w : World) (ha : IntsAt w a la) (hb : IntsAt w b lb) (hla : la.length ≤ 17592186043904) (hlb : lb.length ≤ 17592186043904) :
    Calls Tryz.prog 64 #[.agg #[a, b]] w fun e w' => e = .returned (.bool (setL la && setL lb)) ∧ Below w.heap.size w w' := by
  have hbel : Below w.heap.size w (w.alloc (.cells #[a, b] 32)) := (Below.refl _ _).alloc (Nat.le_refl _) _
  have h1 := set_any a la _ (ha.alloc (.cells #[a, b] 32)) (by omega)
  have h2 := set_any b lb _ (hb.alloc (.cells #[a, b] 32)) (by omega)
  obtain ⟨aoa, ca, rfl⟩ := ha.shape
  obtain ⟨aob, cb, rfl⟩ := hb.shape
  obtain ⟨sa, hsa⟩ : ∃ s, s = setL la := ⟨_, rfl⟩
  obtain ⟨sb, hsb⟩ : ∃ s, s = setL lb := ⟨_, rfl⟩
  rw [← hsa] at h1 ⊢
  rw [← hsb] at h2 ⊢
  have H2 := Lib.hid h2
  clear hsa hsb ha hb h2
  go_enter Tryz.func64, Tryz.ntmps64
  go_wp2_with (go_at_call 57; refine h1.mono ?_; rintro e w1 ⟨rfl, rfl⟩; replace h1 := H2.out)
  all_goals
    go_ret
    rename_i hs
    exact ⟨by simp [hs], hbel⟩
/-- One set within another. -/
def subL (la lb : List Int) : Bool := decide (∀ x ∈ la, x ∈ lb)
set_option maxRecDepth 100000 in
set_option maxHeartbeats 2000000 in
theorem flows_any (a b c d : Value) (la lb lc ld : List Int) (w : World) (ha : IntsAt w a la) (hb : IntsAt w b lb) (hc : IntsAt w c lc) (hd : IntsAt w d ld) (hla : la.length ≤ 17592186043904) (hlb : lb.length ≤ 17592186043904) (hlc : lc.length ≤ 17592186043904) (hld : ld.length ≤ 17592186043904) :
    Calls Tryz.prog 63 #[.agg #[a, b], .agg #[c, d]] w fun e w' => e = .returned (.bool (subL la lc && subL ld lb)) ∧ Below w.heap.size w w' := by
  obtain ⟨W, hW⟩ : ∃ W, W = ((w.alloc (.cells #[a, b] 32)).alloc (.cells #[c, d] 32)) := ⟨_, rfl⟩
  have hbel : Below w.heap.size w W := by rw [hW]; exact ((Below.refl _ _).alloc (Nat.le_refl _) _).alloc (by simp) _
  have e1 : (w.alloc (Obj.cells #[a, b] 32)).heap.size = w.heap.size + 1 := by simp
  have hWs : W.heap.size = w.heap.size + 2 := by rw [hW]; simp
  have hB2 : W.heap[w.heap.size + 1]? = some (.cells #[c, d] 32 (0, 0)) := by rw [hW, ← e1]; exact heap_alloc_new _ _
  have hB1 : W.heap[w.heap.size]? = some (.cells #[a, b] 32 (0, 0)) := by rw [hW, Go.RowKit.Below.heap_alloc _ _ _ (by simp)]; exact heap_alloc_new _ _
  have c0 : W.cell? ⟨w.heap.size, 1, none⟩ = some b := by rw [cell_of_row W _ 1 _ 32 (0, 0) hB1]; rfl
  have c1 : W.cell? ⟨w.heap.size + 1, 1, none⟩ = some d := by rw [cell_of_row W _ 1 _ 32 (0, 0) hB2]; rfl
  have hb' := hb.below hbel (Nat.le_refl _)
  have hd' := hd.below hbel (Nat.le_refl _)
  have h1 := sub_any a c la lc W (ha.below hbel (Nat.le_refl _)) (hc.below hbel (Nat.le_refl _)) hla hlc
  obtain ⟨aoa, ca, rfl⟩ := ha.shape
  obtain ⟨aob, cb, rfl⟩ := hb.shape
  obtain ⟨aoc, cc, rfl⟩ := hc.shape
  obtain ⟨aod, cd, rfl⟩ := hd.shape
  obtain ⟨s1, hs1⟩ : ∃ s, s = subL la lc := ⟨_, rfl⟩
  obtain ⟨s2, hs2⟩ : ∃ s, s = subL ld lb := ⟨_, rfl⟩
  have h2 := fun w1 (h : Below W.heap.size W w1) => sub_any _ _ ld lb w1 (hd'.below h (Nat.le_refl _)) (hb'.below h (Nat.le_refl _)) hld hlb
  rw [show decide (∀ x ∈ la, x ∈ lc) = s1 from hs1.symm] at h1
  rw [show decide (∀ x ∈ ld, x ∈ lb) = s2 from hs2.symm] at h2
  rw [← hs1, ← hs2]
  subst hW
  have H2 := Lib.hid h2
  clear hs1 hs2 ha hb hc hd h2 hB1 hB2 hb' hd'
  go_enter Tryz.func63, Tryz.ntmps63
  go_wp2_with (first
    | (go_at_call 97; refine h1.mono ?_; rintro e w1 ⟨rfl, hb1⟩; clear h1; have d0 := (hb1.cell (p := ⟨w.heap.size, 1, none⟩) (by rw [hWs]; simp only; omega)).trans c0; have d1 := (hb1.cell (p := ⟨w.heap.size + 1, 1, none⟩) (by rw [hWs]; simp only; omega)).trans c1)
    | (go_at_call 97; refine (H2.out w1 hb1).mono ?_; rintro e w2 ⟨rfl, hb2⟩))
  all_goals
    go_ret
    have hs := hb1.size
    rename_i hx
  · exact ⟨by simp [hx], (hbel.trans (hb1.mono (by rw [hWs]; omega))).trans (hb2.mono (by rw [hWs] at hs; omega))⟩
  · exact ⟨by simp [hx], hbel.trans (hb1.mono (by rw [hWs]; omega))⟩
end Go.Proofs.YtmphnoabkmoafaaGreatDoor
namespace Go.Proofs
open Go.Shelf
def Tryz.growI_ren : Go.Shelf.Ren := ⟨fun | 4 => 95 | n => n, fun | 22 => 30 | 25 => 3 | 3 => 3 | 4 => 4 | 9 => 9 | 20 => 20 | 0 => 0 | n => n, fun | n => n⟩
theorem Tryz.growI : Go.Proofs.Lays8.n4 Tryz.prog Tryz.growI_ren := {
  mixed := by kernel_rfl
  f4 := ⟨Tryz.f95.name, by decide, Tryz.func95.trans (congrArg some (by kernel_rfl))⟩
  t0 := Tryz.underlying0
  a0 := Tryz.isAgg0
  z0 := Tryz.sizeOf0
  v0 := Tryz.zeroValue0
  t3 := Tryz.underlying3
  a3 := Tryz.isAgg3
  z3 := Tryz.sizeOf3
  v3 := Tryz.zeroValue3
  t4 := Tryz.underlying4
  a4 := Tryz.isAgg4
  z4 := Tryz.sizeOf4
  v4 := Tryz.zeroValue4
  t9 := Tryz.underlying9
  a9 := Tryz.isAgg9
  z9 := Tryz.sizeOf9
  v9 := Tryz.zeroValue9
  t20 := Tryz.underlying20
  a20 := Tryz.isAgg20
  z20 := Tryz.sizeOf20
  v20 := Tryz.zeroValue20
  t22 := Tryz.underlying30
  a22 := Tryz.isAgg30
  z22 := Tryz.sizeOf30
  v22 := Tryz.zeroValue30 }
open Go.RowKit Go.Lib in
theorem Tryz.slices_Grow_nil (i0 : TypeInfo) (z : Value) (hi0 : Tryz.prog.info? 3 = some i0) (hz0 : i0.zero = some z) (hs0 : 0 < i0.size) (n : Nat) (w : World) (hroom : 0 < 0 + n) (hbig : (0 + n) * i0.bytes ≤ 140737488355328) (h63 : 0 + n ≤ 4611686018427387904) :
    Calls Tryz.prog 95 #[.slice none 0 0, .int .i64 n] w fun e w' =>
      e = .returned (.slice (some ⟨w.heap.size, 0, none⟩) 0 (grownCap w (0 + n) 0 3)) ∧
      w' = w.drew.alloc (.cells (#[] ++ Builtin.zeroCells z.cells (0 + n - 0) ++ Builtin.zeroCells z.cells (grownCap w (0 + n) 0 3 - (0 + n))) 3) := Any8.slices_Grow_grow Tryz.growI i0 z hi0 hz0 hs0 none 0 0 n [] w (Nat.le_refl _) hroom hbig h63 (by simp) (fun _ => rfl) (fun a h => by cases h)
open Go.RowKit Go.Lib in
theorem Tryz.slices_Grow_zero (w : World) :
    Calls Tryz.prog 95 #[.slice none 0 0, .int .i64 (0 : Nat)] w fun e w' => e = .returned (.slice none 0 0) ∧ w' = w := Any8.slices_Grow_room Tryz.growI none 0 0 0 w (Nat.le_refl _) (by decide) (by decide) (Nat.le_refl _)
end Go.Proofs
namespace Go.Proofs.YtmphnoabkmoafaaGreatDoor
open Go.RowKit
variable {uu0 : Unit} [Base uu0]
/-- What Grow at nil leaves is an own row of nothing. -/
theorem grow_any (n : Nat) (w : World) (hn : n ≤ 3000000000) :
    Calls Tryz.prog 95 #[.slice none 0 0, .int .i64 n] w fun e w' => ∃ v', e = .returned v' ∧ w'.ownsRow w.heap.size 3 1 v' 0 (lits []) ∧ Below w.heap.size w w' := by
  obtain ⟨i0, hi, hz0, hz1, hz2⟩ := info_parts info3
  rcases Nat.eq_zero_or_pos n with rfl | h0
  · refine (Tryz.slices_Grow_zero w).mono ?_
    rintro e w' ⟨rfl, rfl⟩
    exact ⟨_, rfl, World.ownsRow_nil _ _ _ _, Below.refl _ _⟩
  · refine (Tryz.slices_Grow_nil i0 (.int .i64 0) hi hz0 (by omega) n w (by omega) (by rw [hz2]; omega) (by omega)).mono ?_
    rintro e w' ⟨rfl, rfl⟩
    have hb := heap_alloc_new w.drew (.cells (#[] ++ Builtin.zeroCells (Value.int .i64 0).cells (0 + n - 0) ++ Builtin.zeroCells (Value.int .i64 0).cells (grownCap w (0 + n) 0 3 - (0 + n))) 3)
    have hge := grownCap_ge w (0 + n) 0 3
    have hmx := grownCap_le_maxLen w (0 + n) 0 3 (by unfold maxLen; omega)
    refine ⟨_, rfl, ⟨rfl, .inr ⟨w.heap.size, grownCap w (0 + n) 0 3, _, rfl, Nat.le_refl _, hb, Nat.zero_le _, hmx, ?_, by simp [lits]⟩⟩, ?_⟩
    · simp [Builtin.zeroCells]
      rw [show (Value.int .i64 0).cells.size = 1 from rfl]
      rw [Nat.zero_add] at hge
      omega
    · exact ((⟨rfl, rfl, rfl, Nat.le_refl _, fun _ _ => rfl⟩ : Below w.heap.size w w.drew)).alloc (Nat.le_refl _) _
theorem und106 : Tryz.prog.underlying 134 = some (.slice 30) := by kernel_rfl
set_option maxRecDepth 100000 in
set_option maxHeartbeats 2000000 in
theorem concat_any (q : Nat) (a b : Value) (la lb : List Int) (w : World) (hq0 : w.cell? ⟨q, 0, none⟩ = some a) (hq1 : w.cell? ⟨q, 1, none⟩ = some b) (hq : q < w.heap.size) (ha : IntsAt w a la) (hb : IntsAt w b lb) (hla : la.length ≤ 1000000000) (hlb : lb.length ≤ 1000000000) :
    Calls Tryz.prog 59 #[.slice (some ⟨q, 0, none⟩) 2 2] w fun e w' => ∃ v', e = .returned v' ∧ w'.ownsRow w.heap.size 3 1 v' (la.length + lb.length) (lits (la ++ lb)) ∧ Below w.heap.size w w' := by
  obtain ⟨i0, hi, hz0, hz1, hz2⟩ := info_parts info3
  obtain ⟨aoa, ca, hva⟩ := ha.shape
  obtain ⟨aob, cb, hvb⟩ := hb.shape
  obtain ⟨na, hna⟩ : ∃ n, n = la.length := ⟨_, rfl⟩
  obtain ⟨nb, hnb⟩ : ∃ n, n = lb.length := ⟨_, rfl⟩
  subst hva
  subst hvb
  have Ha := Lib.hid ha
  have Hb := Lib.hid hb
  clear ha hb
  rw [← hna] at hla hq0 Ha ⊢
  rw [← hnb] at hlb hq1 Hb ⊢
  have Hna := Lib.hid hna
  have Hnb := Lib.hid hnb
  clear hna hnb
  go_enter Tryz.func59, Tryz.ntmps59
  go_wp2
  go_loop [3, 11] (fun s u => u = .int .i64 0 ∧ s = .int .i64 0 ∨ u = .int .i64 1 ∧ s = .int .i64 na ∨ u = .int .i64 2 ∧ s = .int .i64 ((na : Int) + nb)) (fun _ u => 2 - (intOf u).toNat)
  case atStart => exact .inl ⟨rfl, rfl⟩
  case round =>
    rcases hrel with ⟨rfl, rfl⟩ | ⟨rfl, rfl⟩ | ⟨rfl, rfl⟩
    · go_wp2
      exact ⟨.inr (.inl ⟨rfl, rfl⟩), by simp [intOf]⟩
    · go_wp2
      exact ⟨.inr (.inr ⟨rfl, rfl⟩), by simp [intOf]⟩
    · go_wp2_with (go_at_call 95; refine (grow_any (na + nb) _ (by omega)).mono ?_; rintro e w1 ⟨v1, rfl, hown, hbel⟩)
      go_loopw [6, 27] (fun u i wr => ∃ n : Nat, Below w.heap.size w wr ∧ (i = .int .i64 0 ∧ n = 0 ∧ wr.ownsRow w.heap.size 3 1 u n (lits []) ∨ i = .int .i64 1 ∧ n = na ∧ wr.ownsRow w.heap.size 3 1 u n (lits la) ∨ i = .int .i64 2 ∧ n = na + nb ∧ wr.ownsRow w.heap.size 3 1 u n (lits (la ++ lb)))) (fun _ i _ => 2 - (intOf i).toNat)
      case atStart => exact ⟨0, hbel, .inl ⟨rfl, rfl, hown⟩⟩
      case round =>
        clear hown hbel
        obtain ⟨n, hbel, hrel⟩ := hrel
        have d0 := (hbel.cell (p := ⟨q, 0, none⟩) hq).trans hq0
        have d1 := (hbel.cell (p := ⟨q, 1, none⟩) hq).trans hq1
        have hbs := hbel.size
        rcases hrel with ⟨rfl, hn, hown⟩ | ⟨rfl, hn, hown⟩ | ⟨rfl, hn, hown⟩
        · obtain ⟨ao6, c6, rfl, _⟩ := owns_shape hown
          go_wp2_with ((with_reducible show wpList _ _ _ (⟨some 33, _, _, _, _, _⟩ :: _) _ _); go_must (refine wpList_append_ints rfl _ _ 30 rfl w.heap.size 3 i0 (.int .i64 0) und22 hi hz0 hz1 hz2 rfl _ n [] la rfl hown _ rfl (Ha.out.below hbel (Nat.le_refl _)) (by rw [← Hna.out]; omega) hbs ?_; intro v4 w4 hown4 hg4 hn4; simp only [Act.put, List.setIfInBounds_toArray, List.set_cons_zero, List.set_cons_succ]))
          refine ⟨⟨n + la.length, hbel.grown hg4 hbs (fun k hk => (hown.lt k hk).1), .inr (.inl ⟨rfl, by rw [← Hna.out]; omega, by simpa using hown4⟩)⟩, by simp [intOf]⟩
        · obtain ⟨ao6, c6, rfl, _⟩ := owns_shape hown
          go_wp2_with ((with_reducible show wpList _ _ _ (⟨some 33, _, _, _, _, _⟩ :: _) _ _); go_must (refine wpList_append_ints rfl _ _ 30 rfl w.heap.size 3 i0 (.int .i64 0) und22 hi hz0 hz1 hz2 rfl _ n la lb rfl hown _ rfl (Hb.out.below hbel (Nat.le_refl _)) (by rw [← Hnb.out]; omega) hbs ?_; intro v4 w4 hown4 hg4 hn4; simp only [Act.put, List.setIfInBounds_toArray, List.set_cons_zero, List.set_cons_succ]))
          refine ⟨⟨n + lb.length, hbel.grown hg4 hbs (fun k hk => (hown.lt k hk).1), .inr (.inr ⟨rfl, by rw [← Hnb.out]; omega, hown4⟩)⟩, by simp [intOf]⟩
        · subst hn
          go_wp2
          go_ret
          exact ⟨_, rfl, hown, hbel⟩
end Go.Proofs.YtmphnoabkmoafaaGreatDoor
