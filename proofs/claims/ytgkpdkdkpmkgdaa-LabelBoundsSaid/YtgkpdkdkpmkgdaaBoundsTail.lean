/- The law on bounds: what stands behind the list with one of its own behind it. -/
import Derived.Test.YtgkpdkdkpmkgdaaUp
import Derived.Test.YtgkpdkdkpmkgdaaSame
import Derived.Test.YtgkpdkdkpmkgdaaAwake
namespace Go.Proofs.Ytgkpdkdkpmkgdaa
open Go.RowKit
theorem bits_and_bound (x m : Int) (h0 : 0 ≤ m) (h1 : m < 9223372036854775808) : 0 ≤ bits .and .i64 x m ∧ bits .and .i64 x m ≤ m := by
  have hu : bits .and .i64 x m = IntKind.i64.wrap (((x % 2 ^ IntKind.i64.bits).toNat &&& (m % 2 ^ IntKind.i64.bits).toNat : Nat) : Int) := by unfold bits; simp
  have e : (m % 2 ^ IntKind.i64.bits).toNat = m.toNat := by
    rw [show (2 : Int) ^ IntKind.i64.bits = 18446744073709551616 from rfl]; omega
  rw [hu, e]
  have := @Nat.and_le_right (x % 2 ^ IntKind.i64.bits).toNat m.toNat
  generalize (x % 2 ^ IntKind.i64.bits).toNat &&& m.toNat = z at *
  have hz : IntKind.i64.wrap (z : Int) = z := by
    simp [IntKind.wrap, IntKind.signed, IntKind.bits]
    omega
  rw [hz]; omega
section
variable {P : Program} {w : World} {ops : Array Oper} {rest : List Oper} {o : Oper} {a : Act} {Q : Exit → Act → World → Prop}
/-- The same as one step of a region that draws its order. -/
theorem step_append_ints {K : Act → World → Prop} {E : Prop} (hgd : o.guard = none) (s x : Operand) (t : TypeId)
    (ho : o.op = .call { callee := .builtin .append, args := #[s, x], argTypes := #[t, t] })
    (base : Nat) (e : TypeId) (i : TypeInfo) (z : Value) (ht : P.underlying t = some (.slice e)) (hi : P.info? e = some i) (hz : i.zero = some z)
    (hsize : i.size = 1) (hby : i.bytes = 8) (hzs : z.cells.size = 1)
    (v : Value) (n : Nat) (xs l : List Int) (hs : a.eval s = v) (hown : w.ownsRow base e 1 v n (lits xs))
    (vx : Value) (hx : a.eval x = vx) (hB : IntsAt w vx l)
    (hbytes : (n + l.length) * 8 ≤ 140737488355328) (hbase : base ≤ w.heap.size)
    (h : ∀ v' w', w'.ownsRow base e 1 v' (n + l.length) (lits (xs ++ l)) → w.grownBy w' v.ownBlock → (v' = .slice none 0 0 ↔ v = .slice none 0 0 ∧ l.length = 0) → K (a.put o.dst v') w') :
    if Region.wanted o (yielded ops a.tmps) = true then Oper.wp P o a w K Q else E := by
  rw [if_pos (by simp [Region.wanted, hgd])]
  exact wp_append_ints s x t ho base e i z ht hi hz hsize hby hzs v n xs l hs hown vx hx hB hbytes hbase h
end
theorem three_below (w : World) (a b c : Obj) : Below w.heap.size w (((w.alloc a).alloc b).alloc c) := (((Below.refl w.heap.size w).alloc (Nat.le_refl _) a).alloc (by simp) b).alloc (by simp; omega) c
theorem zero_next (w : World) (a : Int) : IntsAt (w.alloc (.cells #[.int .i64 a] 3)) (.slice (some ⟨w.heap.size, 0, none⟩) 1 1) [a] := IntsAt.new w 3 [a] (by simp)
theorem one_next (w : World) (a b : Int) : IntsAt ((w.alloc (.cells #[.int .i64 a] 3)).alloc (.cells #[.int .i64 b] 3)) (.slice (some ⟨w.heap.size + 1, 0, none⟩) 1 1) [b] := by
  have := IntsAt.new (w.alloc (.cells #[.int .i64 a] 3)) 3 [b] (by simp)
  simpa [lits] using this
theorem two_next (w : World) (a b c : Int) : IntsAt (((w.alloc (.cells #[.int .i64 a] 3)).alloc (.cells #[.int .i64 b] 3)).alloc (.cells #[.int .i64 c] 3)) (.slice (some ⟨w.heap.size + 1 + 1, 0, none⟩) 1 1) [c] := by
  have := IntsAt.new ((w.alloc (.cells #[.int .i64 a] 3)).alloc (.cells #[.int .i64 b] 3)) 3 [c] (by simp)
  simpa [lits] using this
theorem IntsAt.grown {w w' : World} {q : Nat} {row : Option Nat} {l : List Int} (hg : w.grownBy w' row) (h : IntsAt w (.slice (some ⟨q, 0, none⟩) l.length l.length) l) (h0 : 0 < l.length) (hq : some q ≠ row) : IntsAt w' (.slice (some ⟨q, 0, none⟩) l.length l.length) l := by
  have hlt := h.lt h0
  obtain ⟨g, off, c, hv, hc⟩ := h.cells h0
  obtain ⟨⟨rfl, rfl⟩, rfl⟩ : (q = g ∧ 0 = off) ∧ l.length = c := by simpa using hv
  exact .inr ⟨q, 0, l.length, rfl, h0, Nat.le_refl _, Nat.lt_of_lt_of_le hlt hg.size, fun j hj => (World.cell?_of_block (w := w) (hg.block q hlt hq)).trans (hc j hj)⟩
/-- A block is a row of whole numbers. -/
def RowI (w : World) (B : Nat) (l : List Int) : Prop := ∃ cur, w.heap[B]? = some (.cells cur 3 (0, 0)) ∧ ∀ j, j < l.length → cur[j]? = some (.int .i64 (l.getD j 0))
theorem RowI.cell {w : World} {B : Nat} {l : List Int} (h : RowI w B l) {j : Nat} (hj : j < l.length) : w.cell? ⟨B, j, none⟩ = some (.int .i64 (l.getD j 0)) := by
  obtain ⟨cur, h1, h2⟩ := h
  rw [cell_of_row w B j _ 3 (0, 0) h1]; exact h2 j hj
theorem RowI.frozen {w : World} {B : Nat} {l : List Int} (h : RowI w B l) (j : Nat) : w.frozen? ⟨B, j, none⟩ = false := by
  obtain ⟨cur, h1, _⟩ := h
  exact frozen_of_row w B j _ 3 h1
theorem RowI.set {w : World} {B : Nat} {l : List Int} (h : RowI w B l) (j : Nat) (v : Int) : RowI (w.setCell ⟨B, j, none⟩ (.int .i64 v)) B (l.set j v) := by
  obtain ⟨cur, h1, h2⟩ := h
  refine ⟨_, heap_setCell_same w B j _ 3 _ h1, fun i hi => ?_⟩
  rw [List.length_set] at hi
  by_cases e : j = i
  · subst e
    have hc := h2 j hi
    have hlt : j < cur.size := (Array.getElem?_eq_some_iff.1 hc).1
    rw [Array.getElem?_setIfInBounds_self_of_lt hlt]
    simp [List.getD, hi]
  · rw [Array.getElem?_setIfInBounds_ne e, h2 i hi]
    simp [List.getD, List.getElem?_set_ne e]
theorem RowI.of_owns {w : World} {base n : Nat} {v : Value} {l : List Int} (h : w.ownsRow base 3 1 v n (lits l)) (h0 : 0 < n) : ∃ g cap, v = .slice (some ⟨g, 0, none⟩) n cap ∧ base ≤ g ∧ g < w.heap.size ∧ n ≤ cap ∧ cap ≤ maxLen ∧ l.length = n ∧ RowI w g l := by
  have hl : l.length = n := by simpa [lits] using h.1
  rcases h.2 with ⟨_, rfl⟩ | ⟨g, cap, cur, rfl, hb, hg, hnc, hcm, hcs, htake⟩
  · omega
  · refine ⟨g, cap, rfl, hb, (Array.getElem?_eq_some_iff.1 hg).1, hnc, hcm, hl, cur, hg, fun j hj => ?_⟩
    have hu : (lits l)[j]? = some (.int .i64 (l.getD j 0)) := by simp [lits, List.getD, hj]
    rw [← htake, List.getElem?_take] at hu
    split at hu
    · simpa using hu
    · cases hu
theorem RowI.ints {w : World} {B cap : Nat} {l : List Int} (h : RowI w B l) (h0 : 0 < l.length) (hc : l.length ≤ cap) : IntsAt w (.slice (some ⟨B, 0, none⟩) l.length cap) l := by
  refine .inr ⟨B, 0, cap, rfl, h0, hc, ?_, fun j hj => by rw [Nat.zero_add]; exact h.cell hj⟩
  obtain ⟨cur, h1, _⟩ := h
  exact (Array.getElem?_eq_some_iff.1 h1).1
theorem wrap_nat (n : Nat) (h : n ≤ 1000) : IntKind.i64.wrap (n : Int) = n := by
  simp [IntKind.wrap, IntKind.signed, IntKind.bits]
  omega
theorem made_at (w : World) (o : Obj) : ((w.alloc o).alloc (.cells #[] 3)).ownsRow w.heap.size 3 1 (.slice (some ⟨w.heap.size + 1, 0, none⟩) 0 0) 0 (lits []) := by
  have h : World.ownsRow _ w.heap.size 3 1 _ 0 (lits []) := World.ownsRow_made (w.alloc o) #[] 0 (by simp) (by decide) rfl
  rw [World.size_alloc] at h
  exact h
theorem one_at (w : World) (x : Int) : IntsAt ((w.alloc (.cells #[] 3)).alloc (.cells #[.int .i64 x] 3)) (.slice (some ⟨w.heap.size + 1, 0, none⟩) 1 1) [x] := by
  have h := IntsAt.new (w.alloc (.cells #[] 3)) 3 [x] (by simp)
  rw [World.size_alloc] at h
  exact h
theorem zero_at (w : World) (x : Int) : IntsAt ((w.alloc (.cells #[.int .i64 x] 3)).alloc (.cells #[] 3)) (.slice (some ⟨w.heap.size, 0, none⟩) 1 1) [x] := (IntsAt.new w 3 [x] (by simp)).alloc (.cells #[] 3)
def cL : Code → Code
  | .seq a _ => a
  | c => c
def cR : Code → Code
  | .seq _ b => b
  | c => c
set_option maxRecDepth 100000 in
set_option maxHeartbeats 1600000 in
theorem bounds_tail (x1 x2 x4 x5 x6 x7 x8 x10 x12 x14 x15 x16 x17 x18 x19 x20 x21 x22 x23 x24 x25 x26 x27 x28 x29 x30 x31 x32 x33 x34 x35 x36 x37 x38 x39 x40 x41 x42 x43 x44 x45 x46 x47 x48 x49 x50 x51 x52 x53 x54 x55 x56 x57 x58 x59 x60 x61 x62 x63 x64 x65 x66 x67 x68 x69 x70 x71 x72 x73 x74 x75 x76 x77 x78 x79 x80 x81 x82 x83 x84 x85 x86 x87 x88 x89 x90 x91 x92 x93 x94 x95 x96 x97 x98 x99 x100 x101 x102 x103 x104 x105 x106 x107 x108 x109 x110 x111 x112 x113 x114 x115 x116 x117 x118 x119 x120 x121 x122 x123 : Value) (k j g c9 : Nat) (sw good : Bool) (v6 : Value) (f : Int) (w w6 : World) (h2 : 2 ≤ k) (hk : k ≤ 39) (hjn : j < k) (Hs : Hid (setL (upL f k) = good)) (Hat6 : Hid (IntsAt w6 (.slice (some ⟨g, 0, none⟩) k c9) (upL f k))) (hd : IntsAt w6 v6 (dupL f k j)) (hB : Below w.heap.size w w6) :
    (cR (cR (cR (cR (cR (cR (cR (cR (cR (Try.f3.body.getD .skip)))))))))).wp Try.prog (bodyPost Try.prog Try.f3 fun e w' => e = .returned (.bool true) ∧ Below w.heap.size w w') ⟨#[.int .i64 k, x1, x2, .bool sw, x4, x5, x6, x7, x8, .slice (some ⟨g, 0, none⟩) k c9, x10, .bool good, x12, v6, x14, x15, x16, x17, x18, x19, x20, x21, x22, x23, x24, x25, x26, x27, x28, x29, x30, x31, x32, x33, x34, x35, x36, x37, x38, x39, x40, x41, x42, x43, x44, x45, x46, x47, x48, x49, x50, x51, x52, x53, x54, x55, x56, x57, x58, x59, x60, x61, x62, x63, x64, x65, x66, x67, x68, x69, x70, x71, x72, x73, x74, x75, x76, x77, x78, x79, x80, x81, x82, x83, x84, x85, x86, x87, x88, x89, x90, x91, x92, x93, x94, x95, x96, x97, x98, x99, x100, x101, x102, x103, x104, x105, x106, x107, x108, x109, x110, x111, x112, x113, x114, x115, x116, x117, x118, x119, x120, x121, x122, x123], []⟩ w6 := by
  obtain ⟨i0, hi, hz0, hz1, hz2⟩ := info_parts info3
  obtain ⟨ao6, c6, rfl⟩ := hd.shape
  rw [dup_length] at hd ⊢
  have Hjn := Lib.hid hjn
  clear hjn
  dsimp only [cR, cL, Try.f3, Option.getD]
  rcases good with _ | _
  · rcases sw with _ | _
    · go_wp2_with (first
        | (go_at_call 12; refine (norm_any _ (dupL f k j) _ hd (by rw [dup_length]; omega)).mono ?_; rintro e w7 ⟨v7, rfl, h7, hb7⟩; rw [dup_norm f k j Hjn.out, Hs.out]; rw [normV, dup_norm f k j Hjn.out, Hs.out, if_neg (by decide)] at h7; have hd7 := hd.below hb7 (Nat.le_refl _); obtain ⟨ao7, c7, rfl⟩ := h7.shape)
        | (go_at_call 9; refine (set_any _ (dupL f k j) _ hd7 (by rw [dup_length]; omega)).mono ?_; rintro e w8 ⟨rfl, rfl⟩; rw [dup_set f k j Hjn.out])
        | (go_at_call 11; refine (awake3_any _).mono ?_; rintro e w10 ⟨rfl, hb10⟩))
      go_ret
      have k7 := hB.trans (hb7.mono hB.size)
      exact ⟨rfl, k7.trans (hb10.mono k7.size)⟩
    · obtain ⟨k', rfl⟩ : ∃ k', k = k' + 1 := ⟨k - 1, by omega⟩
      go_wp2_with ((with_reducible show wpList _ _ _ (⟨some 84, _, _, _, _, _⟩ :: _) _ _); go_must (refine wpList_append_ints rfl _ _ 22 rfl w6.heap.size 3 i0 (.int .i64 0) und22 hi hz0 hz1 hz2 rfl _ 0 [] (upL f (k' + 1)) rfl (World.ownsRow_made w6 #[] 0 (Nat.le_refl _) (by decide) rfl : World.ownsRow _ w6.heap.size 3 1 _ 0 (lits [])) _ rfl (Hat6.out.alloc _) (by rw [upL_length]; omega) (by simp) ?_; intro v8 w8 hown8 hg8 hn8; simp only [Act.put, List.setIfInBounds_toArray, List.set_cons_zero, List.set_cons_succ]))
      have hb8 : Below w6.heap.size w6 w8 := ((Below.refl w6.heap.size w6).alloc (Nat.le_refl _) _).grown hg8 (by simp) (fun q hq => Nat.le_of_eq (Option.some.inj hq))
      rw [List.nil_append, upL_length] at hown8
      obtain ⟨g8, cap8, rfl, hg8b, hg8l, hnc8, hcm8, hl8, hrow8⟩ := RowI.of_owns hown8 (by omega)
      obtain ⟨xa, hxa⟩ : ∃ x, x = (upL f (k' + 1)).getD 0 0 := ⟨_, rfl⟩
      obtain ⟨xb, hxb⟩ : ∃ x, x = (upL f (k' + 1)).getD k' 0 := ⟨_, rfl⟩
      have ca := hrow8.cell (j := 0) (by rw [upL_length]; omega)
      have cb := hrow8.cell (j := k') (by rw [upL_length]; omega)
      rw [← hxa] at ca
      rw [← hxb] at cb
      have fa := hrow8.frozen 0
      have fb := hrow8.frozen k'
      have hsw : swapL f (k' + 1) = ((upL f (k' + 1)).set 0 xb).set k' xa := by rw [swapL, hxa, hxb]; rfl
      have hrow9 := (hrow8.set 0 xb).set k' xa
      rw [← hsw] at hrow9
      have hd9 : IntsAt ((w8.setCell ⟨g8, 0, none⟩ (.int .i64 xb)).setCell ⟨g8, k', none⟩ (.int .i64 xa)) (.slice (some ⟨g8, 0, none⟩) (k' + 1) cap8) (swapL f (k' + 1)) := by
        have := hrow9.ints (cap := cap8) (by rw [swap_length]; omega) (by rw [swap_length]; omega)
        rw [swap_length] at this
        exact this
      have hb9 : Below w6.heap.size w6 ((w8.setCell ⟨g8, 0, none⟩ (.int .i64 xb)).setCell ⟨g8, k', none⟩ (.int .i64 xa)) := (hb8.setCell (by simpa using hg8b) _).setCell (by simpa using hg8b) _
      have Hd9 := Lib.hid hd9
      have Hb9 := Lib.hid hb9
      clear hrow8 hxa hxb hown8 hg8 hn8 hsw hrow9 hd9 hb9
      rw [Nat.zero_add]
      have e2 := wrap_nat k' (by omega)
      have e4 : (k' : Int) < (k' : Int) + 1 := by omega
      have e5 : (0 : Int) < (k' : Int) + 1 := by omega
      have e3 : ¬ (0 = k') := by omega
      go_region_law (fail)
      all_goals
        generalize hW9 : (((w8.setCell ⟨g8, 0, none⟩ (.int .i64 xb)).setCell ⟨g8, k', none⟩ (.int .i64 xa)).drew) = W9
        have hd : IntsAt W9 (.slice (some ⟨g8, 0, none⟩) (k' + 1) cap8) (swapL f (k' + 1)) := by rw [← hW9]; exact Hd9.out
        have hBW : Below w6.heap.size w6 W9 := by rw [← hW9]; exact Hb9.out.drew
        replace Hat6 := Lib.hid (Hat6.out.below hBW (Nat.le_refl _))
        replace hB := hB.trans (hBW.mono hB.size)
        clear hW9 ca cb fa fb e3
        go_wp2_with (first
          | (go_at_call 12; refine (norm_any _ (swapL f (k' + 1)) _ hd (by rw [swap_length]; omega)).mono ?_; rintro e w7 ⟨v7, rfl, h7, hb7⟩; rw [swap_norm f (k' + 1) (by omega), Hs.out]; rw [normV, swap_norm f (k' + 1) (by omega), Hs.out, if_neg (by decide)] at h7; have hd7 := hd.below hb7 (Nat.le_refl _); obtain ⟨ao7, c7, rfl⟩ := h7.shape)
          | (go_at_call 9; refine (set_any _ (swapL f (k' + 1)) _ hd7 (by rw [swap_length]; omega)).mono ?_; rintro e w8 ⟨rfl, rfl⟩; rw [swap_set f (k' + 1) (by omega)])
          | (go_at_call 11; refine (awake3_any _).mono ?_; rintro e w10 ⟨rfl, hb10⟩))
        go_ret
        have k7 := hB.trans (hb7.mono hB.size)
        exact ⟨rfl, k7.trans (hb10.mono k7.size)⟩
  · rcases sw with _ | _
    · go_wp2_with (first
        | (go_at_call 12; refine (norm_any _ (dupL f k j) _ hd (by rw [dup_length]; omega)).mono ?_; rintro e w7 ⟨v7, rfl, h7, hb7⟩; rw [dup_norm f k j Hjn.out, Hs.out]; rw [normV, dup_norm f k j Hjn.out, Hs.out, if_pos rfl] at h7; have hd7 := hd.below hb7 (Nat.le_refl _); obtain ⟨ao7, c7, rfl⟩ := h7.shape; rw [upL_length] at h7; rw [upL_length]; have Hat7 := Lib.hid (Hat6.out.below hb7 (Nat.le_refl _)))
        | (go_at_call 9; refine (set_any _ (dupL f k j) _ hd7 (by rw [dup_length]; omega)).mono ?_; rintro e w8 ⟨rfl, rfl⟩; rw [dup_set f k j Hjn.out])
        | (go_at_call 13; refine (same_any _ _ (upL f k) (upL f k) _ h7 Hat7.out (by rw [upL_length]; omega) (by rw [upL_length]; omega)).mono ?_; rintro e w9 ⟨rfl, n9, rfl⟩; rw [decide_eq_true rfl])
        | (go_at_call 11; refine (awake3_any _).mono ?_; rintro e w10 ⟨rfl, hb10⟩))
      go_ret
      have k7 := hB.trans (hb7.mono hB.size)
      exact ⟨rfl, k7.trans ⟨hb10.os, hb10.tape, hb10.output, hb10.size, fun q hq => hb10.block q (Nat.lt_of_lt_of_le hq k7.size)⟩⟩
    · obtain ⟨k', rfl⟩ : ∃ k', k = k' + 1 := ⟨k - 1, by omega⟩
      go_wp2_with ((with_reducible show wpList _ _ _ (⟨some 84, _, _, _, _, _⟩ :: _) _ _); go_must (refine wpList_append_ints rfl _ _ 22 rfl w6.heap.size 3 i0 (.int .i64 0) und22 hi hz0 hz1 hz2 rfl _ 0 [] (upL f (k' + 1)) rfl (World.ownsRow_made w6 #[] 0 (Nat.le_refl _) (by decide) rfl : World.ownsRow _ w6.heap.size 3 1 _ 0 (lits [])) _ rfl (Hat6.out.alloc _) (by rw [upL_length]; omega) (by simp) ?_; intro v8 w8 hown8 hg8 hn8; simp only [Act.put, List.setIfInBounds_toArray, List.set_cons_zero, List.set_cons_succ]))
      have hb8 : Below w6.heap.size w6 w8 := ((Below.refl w6.heap.size w6).alloc (Nat.le_refl _) _).grown hg8 (by simp) (fun q hq => Nat.le_of_eq (Option.some.inj hq))
      rw [List.nil_append, upL_length] at hown8
      obtain ⟨g8, cap8, rfl, hg8b, hg8l, hnc8, hcm8, hl8, hrow8⟩ := RowI.of_owns hown8 (by omega)
      obtain ⟨xa, hxa⟩ : ∃ x, x = (upL f (k' + 1)).getD 0 0 := ⟨_, rfl⟩
      obtain ⟨xb, hxb⟩ : ∃ x, x = (upL f (k' + 1)).getD k' 0 := ⟨_, rfl⟩
      have ca := hrow8.cell (j := 0) (by rw [upL_length]; omega)
      have cb := hrow8.cell (j := k') (by rw [upL_length]; omega)
      rw [← hxa] at ca
      rw [← hxb] at cb
      have fa := hrow8.frozen 0
      have fb := hrow8.frozen k'
      have hsw : swapL f (k' + 1) = ((upL f (k' + 1)).set 0 xb).set k' xa := by rw [swapL, hxa, hxb]; rfl
      have hrow9 := (hrow8.set 0 xb).set k' xa
      rw [← hsw] at hrow9
      have hd9 : IntsAt ((w8.setCell ⟨g8, 0, none⟩ (.int .i64 xb)).setCell ⟨g8, k', none⟩ (.int .i64 xa)) (.slice (some ⟨g8, 0, none⟩) (k' + 1) cap8) (swapL f (k' + 1)) := by
        have := hrow9.ints (cap := cap8) (by rw [swap_length]; omega) (by rw [swap_length]; omega)
        rw [swap_length] at this
        exact this
      have hb9 : Below w6.heap.size w6 ((w8.setCell ⟨g8, 0, none⟩ (.int .i64 xb)).setCell ⟨g8, k', none⟩ (.int .i64 xa)) := (hb8.setCell (by simpa using hg8b) _).setCell (by simpa using hg8b) _
      have Hd9 := Lib.hid hd9
      have Hb9 := Lib.hid hb9
      clear hrow8 hxa hxb hown8 hg8 hn8 hsw hrow9 hd9 hb9
      rw [Nat.zero_add]
      have e2 := wrap_nat k' (by omega)
      have e4 : (k' : Int) < (k' : Int) + 1 := by omega
      have e5 : (0 : Int) < (k' : Int) + 1 := by omega
      have e3 : ¬ (0 = k') := by omega
      go_region_law (fail)
      all_goals
        generalize hW9 : (((w8.setCell ⟨g8, 0, none⟩ (.int .i64 xb)).setCell ⟨g8, k', none⟩ (.int .i64 xa)).drew) = W9
        have hd : IntsAt W9 (.slice (some ⟨g8, 0, none⟩) (k' + 1) cap8) (swapL f (k' + 1)) := by rw [← hW9]; exact Hd9.out
        have hBW : Below w6.heap.size w6 W9 := by rw [← hW9]; exact Hb9.out.drew
        replace Hat6 := Lib.hid (Hat6.out.below hBW (Nat.le_refl _))
        replace hB := hB.trans (hBW.mono hB.size)
        clear hW9 ca cb fa fb e3
        go_wp2_with (first
          | (go_at_call 12; refine (norm_any _ (swapL f (k' + 1)) _ hd (by rw [swap_length]; omega)).mono ?_; rintro e w7 ⟨v7, rfl, h7, hb7⟩; rw [swap_norm f (k' + 1) (by omega), Hs.out]; rw [normV, swap_norm f (k' + 1) (by omega), Hs.out, if_pos rfl] at h7; have hd7 := hd.below hb7 (Nat.le_refl _); obtain ⟨ao7, c7, rfl⟩ := h7.shape; rw [upL_length] at h7; rw [upL_length]; have Hat7 := Lib.hid (Hat6.out.below hb7 (Nat.le_refl _)))
          | (go_at_call 9; refine (set_any _ (swapL f (k' + 1)) _ hd7 (by rw [swap_length]; omega)).mono ?_; rintro e w8 ⟨rfl, rfl⟩; rw [swap_set f (k' + 1) (by omega)])
          | (go_at_call 13; refine (same_any _ _ (upL f (k' + 1)) (upL f (k' + 1)) _ h7 Hat7.out (by rw [upL_length]; omega) (by rw [upL_length]; omega)).mono ?_; rintro e w9 ⟨rfl, n9, rfl⟩; rw [decide_eq_true rfl])
          | (go_at_call 11; refine (awake3_any _).mono ?_; rintro e w10 ⟨rfl, hb10⟩))
        go_ret
        have k7 := hB.trans (hb7.mono hB.size)
        exact ⟨rfl, k7.trans ⟨hb10.os, hb10.tape, hb10.output, hb10.size, fun q hq => hb10.block q (Nat.lt_of_lt_of_le hq k7.size)⟩⟩
end Go.Proofs.Ytgkpdkdkpmkgdaa
