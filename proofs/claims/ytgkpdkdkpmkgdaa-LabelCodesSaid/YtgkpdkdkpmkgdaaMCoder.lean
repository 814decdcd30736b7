/- label.Encode and Decode: what they do. -/
import Derived.BigQuiet
import Derived.IntWalk
import Derived.Test.YtgkpdkdkpmkgdaaBytes
import Derived.Test.YtgkpdkdkpmkgdaaCodeL
import Derived.Test.YtgkpdkdkpmkgdaaPairBox
import Derived.Test.YtgkpdkdkpmkgdaaSub
namespace Go.Proofs.Ytgkpdkdkpmkgdaa
open Go.RowKit
set_option linter.unusedVariables false
theorem tag_any (t : Int) (w : World) : Calls Try.prog 44 #[.int .i64 t] w fun e w' => e = .returned (.bool (decide (1 ≤ t) && decide (t ≤ 2147483647))) ∧ w' = w := by
  by_cases h1 : 1 ≤ t
  · by_cases h2 : t ≤ 2147483647
    · go_enter Try.func44, Try.ntmps44
      go_wp2
      go_ret
      exact ⟨by simp; omega, rfl⟩
    · go_enter Try.func44, Try.ntmps44
      go_wp2
      go_ret
      exact ⟨by simp; omega, rfl⟩
  · go_enter Try.func44, Try.ntmps44
    go_wp2
    go_ret
    exact ⟨by rw [decide_eq_false (by omega : ¬ 1 ≤ t)]; rfl, rfl⟩
theorem or_val (a b : Int) (ha : 0 ≤ a) (ha2 : a < 4611686018427387904) (hb : 0 ≤ b) (hb2 : b < 4611686018427387904) : bits .or .i64 a b = ((a.toNat ||| b.toNat : Nat) : Int) := by
  have hu : bits .or .i64 a b = IntKind.i64.wrap (((a % 2 ^ IntKind.i64.bits).toNat ||| (b % 2 ^ IntKind.i64.bits).toNat : Nat) : Int) := by unfold bits; simp
  have e1 : (a % 2 ^ IntKind.i64.bits).toNat = a.toNat := by
    rw [show (2 : Int) ^ IntKind.i64.bits = 18446744073709551616 from rfl]; omega
  have e2 : (b % 2 ^ IntKind.i64.bits).toNat = b.toNat := by
    rw [show (2 : Int) ^ IntKind.i64.bits = 18446744073709551616 from rfl]; omega
  rw [hu, e1, e2]
  have : a.toNat ||| b.toNat < 2 ^ 62 := Nat.or_lt_two_pow (by omega) (by omega)
  exact IntWalk.i64_in _ (by omega)
theorem or_add (a : Int) (i : Nat) (b : Int) (ha : 0 ≤ a) (ha2 : a * 2 ^ i < 4611686018427387904) (hb : 0 ≤ b) (hb2 : b < 2 ^ i) (hb3 : b < 4611686018427387904) : bits .or .i64 (a * 2 ^ i) b = a * 2 ^ i + b := by
  have hp : (0 : Int) ≤ a * 2 ^ i := Int.mul_nonneg ha (Int.pow_nonneg (by decide))
  rw [or_val _ _ hp ha2 hb hb3]
  obtain ⟨x, rfl⟩ := Int.eq_ofNat_of_zero_le ha
  obtain ⟨y, rfl⟩ := Int.eq_ofNat_of_zero_le hb
  have h1 : y < 2 ^ i := by
    have : ((y : Nat) : Int) < ((2 ^ i : Nat) : Int) := by rw [Int.natCast_pow]; exact hb2
    exact Int.ofNat_lt.1 this
  have h2 := Nat.two_pow_add_eq_or_of_lt h1 x
  have e : ((x : Int) * 2 ^ i).toNat = 2 ^ i * x := by
    have : ((x : Int) * 2 ^ i) = ((2 ^ i * x : Nat) : Int) := by rw [Int.natCast_mul, Int.natCast_pow, Int.mul_comm]; rfl
    rw [this, Int.toNat_natCast]
  rw [e, Int.toNat_natCast, ← h2]
  rw [Int.natCast_add, Int.natCast_mul, Int.natCast_pow, Int.mul_comm]; rfl
theorem or_four (a b c d : Int) (ha : 0 ≤ a ∧ a < 256) (hb : 0 ≤ b ∧ b < 256) (hc : 0 ≤ c ∧ c < 256) (hd : 0 ≤ d ∧ d < 256) :
    bits .or .i64 (bits .or .i64 (bits .or .i64 (a * 16777216) (b * 65536)) (c * 256)) d = four a b c d := by
  have e1 := or_add a 24 (b * 65536) (by omega) (by omega) (by omega) (by omega) (by omega)
  rw [show (2 : Int) ^ 24 = 16777216 from rfl] at e1
  have e2 := or_add (a * 256 + b) 16 (c * 256) (by omega) (by omega) (by omega) (by omega) (by omega)
  rw [show (2 : Int) ^ 16 = 65536 from rfl] at e2
  have e3 := or_add ((a * 256 + b) * 256 + c) 8 d (by omega) (by omega) (by omega) (by omega) (by omega)
  rw [show (2 : Int) ^ 8 = 256 from rfl] at e3
  rw [e1, show a * 16777216 + b * 65536 = (a * 256 + b) * 65536 by omega, e2, show (a * 256 + b) * 65536 + c * 256 = ((a * 256 + b) * 256 + c) * 256 by omega, e3]
  unfold four; omega
theorem lits_snoc (l : List Int) (x : Int) : lits (l ++ [x]) = lits l ++ [.int .i64 x] := by simp [lits]
set_option maxRecDepth 100000 in
set_option maxHeartbeats 2000000 in
theorem setread_any (v : Value) (l : List Int) (w : World) (h : BytesAt w v l) (ho : Octs l) (hl : l.length ≤ 140737488355328) :
    Calls Try.prog 58 #[v] w fun e w' => ∃ v', e = .returned (.tuple #[v', .int .i64 (readL l).2.1, .int .i64 (readL l).2.2]) ∧ IntsAt w' v' (readL l).1 ∧ Below w.heap.size w w' := by
  obtain ⟨i0, hi, hz0, hz1, hz2⟩ := info_parts info3
  obtain ⟨ao, c, hv⟩ := h.shape
  subst hv
  obtain ⟨m, hm⟩ : ∃ n, n = l.length := ⟨_, rfl⟩
  obtain ⟨R, hR⟩ : ∃ R, R = readL l := ⟨_, rfl⟩
  have hR0 := hR
  unfold readL at hR0
  rw [← hm] at h hR0 hl ⊢
  rw [← hR]
  rcases Nat.eq_zero_or_pos m with h0 | h0
  · rw [if_pos h0] at hR0
    subst h0 hR0
    go_enter Try.func58, Try.ntmps58
    go_wp2
    go_ret3
    exact ⟨_, rfl, IntsAt.nil _, Below.refl _ _⟩
  · rw [if_neg (by omega)] at hR0
    rcases h with ⟨h9, _⟩ | ⟨g, off, c', hv, _, hc', hgl, hcell⟩
    · rw [h9] at hm; simp at hm; omega
    obtain ⟨rfl, rfl⟩ : ao = some ⟨g, off, none⟩ ∧ c = c' := by simp at hv; exact ⟨hv.1, hv.2.2⟩
    have c0 : w.cell? ⟨g, off, none⟩ = some (.int .u8 (l.getD 0 0)) := hcell 0 (by omega)
    have hx := ho.getD 0
    obtain ⟨x, hxe⟩ : ∃ x, x = l.getD 0 0 := ⟨_, rfl⟩
    rw [← hxe] at c0 hx hR0
    have ew : wrap64 x = x := by unfold wrap64; omega
    have Hm := Lib.hid hm
    have HR0 := Lib.hid hR0
    have Hcell := Lib.hid hcell
    clear hm hR0 hv hcell hxe hR
    by_cases h16 : x > 16
    · have hR1 : R = ([], 0, 3) := by rw [HR0.out, if_pos h16]
      clear HR0
      subst hR1
      go_enter Try.func58, Try.ntmps58
      go_wp2
      go_ret3
      exact ⟨_, rfl, IntsAt.nil _, Below.refl _ _⟩
    · have HR1 : Hid (R = readLoop l x.toNat 0 []) := by show _ = _; rw [HR0.out, if_neg h16]
      obtain ⟨n, rfl⟩ := Int.eq_ofNat_of_zero_le hx.1
      rw [Int.toNat_natCast] at HR1
      clear HR0
      have hn : n ≤ 16 := by omega
      clear h16 hx ew
      have dm : ((m : Int) == 0) = false := by simp; omega
      have dn : decide ((16 : Int) < (n : Int)) = false := by simp; omega
      go_enter Try.func58, Try.ntmps58
      go_wp2
      go_loopw [2, 3, 18] (fun u s i wr => ∃ (k p : Nat) (acc : List Int) (ao : Option Addr) (c : Nat), k ≤ n ∧ i = .int .i64 k ∧ s = .int .i64 p ∧ p = 1 + 4 * k ∧ u = .slice ao k c ∧ acc.length = k ∧ setL acc = true ∧ R = readLoop l (n - k) k acc ∧ wr.ownsRow w.heap.size 3 1 (.slice ao k c) k (lits acc) ∧ Below w.heap.size w wr) (fun _ _ i _ => n - (intOf i).toNat)
      case atStart => exact ⟨0, 1, [], none, 0, by omega, rfl, rfl, rfl, rfl, rfl, rfl, HR1.out, by simpa [lits] using World.ownsRow_nil _ _ _ _, Below.refl _ _⟩
      case round =>
        clear HR1
        obtain ⟨k, p, acc, ao, c1, hk, rfl, rfl, hp, rfl, hacc, hset, hRk, hown, hbel⟩ := hrel
        have Hp := Lib.hid hp
        have Hacc := Lib.hid hacc
        have Hset := Lib.hid hset
        have HRk := Lib.hid hRk
        have Hown := Lib.hid hown
        have hpm : p ≤ 61 + 4 := by omega
        clear hp hacc hset hRk hown
        by_cases hlt : k < n
        · by_cases hlen : m < p + 4
          · have d1 : decide ((m : Int) - p < 4) = true := by simp; omega
            have hf : R = ([], 0, 4) := by
              rw [HRk.out, show n - k = (n - k - 1) + 1 by omega, readLoop, if_pos (by have := Hm.out; have := Hp.out; omega)]
            have Hf := Lib.hid hf
            clear hf
            go_wp2
            go_ret3
            rw [Hf.out]
            exact ⟨_, rfl, IntsAt.nil _, hbel⟩
          · have d1 : decide ((m : Int) - p < 4) = false := by simp; omega
            have cc : ∀ j, j < 4 → ∀ q, (wr.drewN q).cell? ⟨g, off + (p + j), none⟩ = some (.int .u8 (l.getD (p + j) 0)) := fun j hj q => (hbel.cell (p := ⟨g, off + (p + j), none⟩) hgl).trans (Hcell.out (p + j) (by have := Hm.out; omega))
            have q0 : ∀ q, (wr.drewN q).cell? ⟨g, off + p, none⟩ = some (.int .u8 (l.getD p 0)) := cc 0 (by omega)
            have q1 : ∀ q, (wr.drewN q).cell? ⟨g, off + (p + 1), none⟩ = some (.int .u8 (l.getD (p + 1) 0)) := cc 1 (by omega)
            have q2 : ∀ q, (wr.drewN q).cell? ⟨g, off + (p + 2), none⟩ = some (.int .u8 (l.getD (p + 2) 0)) := cc 2 (by omega)
            have q3 : ∀ q, (wr.drewN q).cell? ⟨g, off + (p + 3), none⟩ = some (.int .u8 (l.getD (p + 3) 0)) := cc 3 (by omega)
            have o0 := ho.getD p
            have o1 := ho.getD (p + 1)
            have o2 := ho.getD (p + 2)
            have o3 := ho.getD (p + 3)
            have Hx : Hid (fourAt l p = four (l.getD p 0) (l.getD (p + 1) 0) (l.getD (p + 2) 0) (l.getD (p + 3) 0)) := Lib.hid rfl
            generalize l.getD p 0 = x0 at q0 o0 Hx
            generalize l.getD (p + 1) 0 = x1 at q1 o1 Hx
            generalize l.getD (p + 2) 0 = x2 at q2 o2 Hx
            generalize l.getD (p + 3) 0 = x3 at q3 o3 Hx
            clear cc
            have s1 : IntKind.i64.wrap ((p : Int) + 1) = p + 1 := IntWalk.i64_in _ (by omega)
            have s2 : IntKind.i64.wrap ((p : Int) + 2) = p + 2 := IntWalk.i64_in _ (by omega)
            have s3 : IntKind.i64.wrap ((p : Int) + 3) = p + 3 := IntWalk.i64_in _ (by omega)
            have n1 : ((p : Int) + 1).toNat = p + 1 := by omega
            have n2 : ((p : Int) + 2).toNat = p + 2 := by omega
            have n3 : ((p : Int) + 3).toNat = p + 3 := by omega
            have z1 : (0 : Int) ≤ (p : Int) + 1 := by omega
            have z2 : (0 : Int) ≤ (p : Int) + 2 := by omega
            have z3 : (0 : Int) ≤ (p : Int) + 3 := by omega
            have e4 := or_four x0 x1 x2 x3 o0 o1 o2 o3
            have hb4 : 0 ≤ four x0 x1 x2 x3 ∧ four x0 x1 x2 x3 < 4294967296 := by unfold four; omega
            rw [← Hx.out] at e4 hb4
            have hRn : Hid (R = if nextOk acc (fourAt l p) then readLoop l (n - k - 1) (k + 1) (acc ++ [fourAt l p]) else ([], 0, 3)) := by
              show _ = _
              have h1 := HRk.out
              rw [show n - k = (n - k - 1) + 1 by omega, readLoop, if_neg (by have := Hm.out; have := Hp.out; omega), ← Hp.out] at h1
              exact h1
            have E4 := Lib.hid e4
            clear e4 Hx
            go_wp2
            go_quiet (fail)
            rw [E4.out]
            generalize fourAt l p = T at hRn hb4 ⊢
            clear E4 q0 q1 q2 q3 o0 o1 o2 o3 s1 s2 s3 n1 n2 n3 z1 z2 z3
            by_cases ht1 : 1 ≤ T ∧ T ≤ 2147483647
            · have dt : (decide (1 ≤ T) && decide (T ≤ 2147483647)) = true := by simp; omega
              rcases Nat.eq_zero_or_pos k with hk0 | hk0
              · subst hk0
                have hok : Hid (nextOk acc T = true) := by
                  show _ = _
                  unfold nextOk; rw [dt, Hacc.out]; simp
                clear ht1
                go_wp2_with (first
                  | (go_at_call 44; refine (tag_any T _).mono ?_; rintro e w1 ⟨rfl, rfl⟩; rw [dt])
                  | ((with_reducible show wpList _ _ _ (⟨some 74, _, _, _, _, _⟩ :: _) _ _); go_must (refine wpList_append_ints rfl _ _ 22 rfl w.heap.size 3 i0 (.int .i64 0) und22 hi hz0 hz1 hz2 rfl _ 0 acc [T] rfl ((show World.ownsRow (wr.drewN nq) w.heap.size 3 1 _ 0 (lits acc) from Hown.out).alloc _) _ rfl (IntsAt.new (wr.drewN nq) 3 [T] (by simp)) (by simp <;> omega) (by have := hbel.size; simp <;> omega) ?_; intro v4 w4 hown4 hg4 hn4; simp only [Act.put, List.setIfInBounds_toArray, List.set_cons_zero, List.set_cons_succ]; obtain ⟨ao4, c4, rfl, hc4, _⟩ := owns_shape hown4; have Hown4 := Lib.hid hown4; clear hown4 hn4)))
                refine ⟨⟨0 + 1, p + 4, acc ++ [T], ao4, c4, by omega, by go_num, by go_num, by have := Hp.out; omega, rfl, by rw [List.length_append, Hacc.out]; rfl, ?_, ?_, Hown4.out, (Below.alloc (w := wr.drewN nq) ⟨hbel.os, hbel.tape, hbel.output, hbel.size, hbel.block⟩ hbel.size _).grown hg4 (by have := hbel.size; simp; omega) (fun q hq => (Hown.out.lt q hq).1)⟩, by simp [intOf]; omega⟩
                · rw [setL_snoc acc T Hset.out (by rw [Hacc.out]; omega)]; exact hok.out
                · rw [hRn.out, if_pos hok.out]; rfl
              · obtain ⟨j, rfl⟩ : ∃ j, k = j + 1 := ⟨k - 1, by omega⟩
                obtain ⟨g1, cap1, hv1, hbg, hg1, hnc, hcm, hcl⟩ := owns_cells Hown.out hk0
                obtain ⟨rfl, rfl⟩ : ao = some ⟨g1, 0, none⟩ ∧ c1 = cap1 := by simp at hv1; exact hv1
                have y0 : (wr.drewN nq).cell? ⟨g1, j, none⟩ = some (.int .i64 (acc.getD j 0)) := hcl j (by rw [Hacc.out]; omega)
                have hnx : Hid (nextOk acc T = decide (acc.getD j 0 < T)) := by
                  show _ = _
                  unfold nextOk; rw [dt, Hacc.out]; simp
                generalize acc.getD j 0 = y at y0 hnx
                have e1 : wrap64 ((j : Int) + 1 - 1) = j := by unfold wrap64; omega
                clear hcl hv1 ht1
                by_cases hty : T ≤ y
                · have d2 : decide (T ≤ y) = true := by simp [hty]
                  have hf : Hid (R = ([], 0, 3)) := by
                    show _ = _
                    rw [hRn.out, if_neg (by rw [hnx.out]; simp; omega)]
                  clear hty
                  go_wp2_with (go_at_call 44; refine (tag_any T _).mono ?_; rintro e w1 ⟨rfl, rfl⟩; rw [dt])
                  go_ret3
                  rw [hf.out]
                  exact ⟨_, rfl, IntsAt.nil _, ⟨hbel.os, hbel.tape, hbel.output, hbel.size, hbel.block⟩⟩
                · have d2 : decide (T ≤ y) = false := by simp; omega
                  have hok : Hid (nextOk acc T = true) := by
                    show _ = _
                    rw [hnx.out]; simp; omega
                  clear hty
                  go_wp2_with (first
                    | (go_at_call 44; refine (tag_any T _).mono ?_; rintro e w1 ⟨rfl, rfl⟩; rw [dt])
                    | ((with_reducible show wpList _ _ _ (⟨some 74, _, _, _, _, _⟩ :: _) _ _); go_must (refine wpList_append_ints rfl _ _ 22 rfl w.heap.size 3 i0 (.int .i64 0) und22 hi hz0 hz1 hz2 rfl _ (j + 1) acc [T] rfl ((show World.ownsRow (wr.drewN nq) w.heap.size 3 1 _ (j + 1) (lits acc) from Hown.out).alloc _) _ rfl (IntsAt.new (wr.drewN nq) 3 [T] (by simp)) (by simp <;> omega) (by have := hbel.size; simp <;> omega) ?_; intro v4 w4 hown4 hg4 hn4; simp only [Act.put, List.setIfInBounds_toArray, List.set_cons_zero, List.set_cons_succ]; obtain ⟨ao4, c4, rfl, hc4, _⟩ := owns_shape hown4; have Hown4 := Lib.hid hown4; clear hown4 hn4)))
                  refine ⟨⟨(j + 1) + 1, p + 4, acc ++ [T], ao4, c4, by omega, by go_num, by go_num, by have := Hp.out; omega, rfl, by rw [List.length_append, Hacc.out]; rfl, ?_, ?_, Hown4.out, (Below.alloc (w := wr.drewN nq) ⟨hbel.os, hbel.tape, hbel.output, hbel.size, hbel.block⟩ hbel.size _).grown hg4 (by have := hbel.size; simp; omega) (fun q hq => (Hown.out.lt q hq).1)⟩, by simp [intOf]; omega⟩
                  · rw [setL_snoc acc T Hset.out (by rw [Hacc.out]; omega)]; exact hok.out
                  · rw [hRn.out, if_pos hok.out]; rfl
            · have dt : (decide (1 ≤ T) && decide (T ≤ 2147483647)) = false := by simp; omega
              have hf : Hid (R = ([], 0, 3)) := by
                show _ = _
                rw [hRn.out, if_neg (by unfold nextOk; rw [dt]; simp)]
              clear ht1
              go_wp2_with (go_at_call 44; refine (tag_any T _).mono ?_; rintro e w1 ⟨rfl, rfl⟩; rw [dt])
              go_ret3
              rw [hf.out]
              exact ⟨_, rfl, IntsAt.nil _, ⟨hbel.os, hbel.tape, hbel.output, hbel.size, hbel.block⟩⟩
        · obtain rfl : k = n := by omega
          have hf : Hid (R = (acc, (p : Int), 0)) := by
            show _ = _
            rw [HRk.out, Nat.sub_self, readLoop, Hp.out]
            simp
          have hle := owns_le Hown.out
          have hat : IntsAt wr (.slice ao k c1) acc := IntsAt.of_owns Hown.out
          have hln : acc.length ≤ 4611686018427387904 := by rw [Hacc.out]; omega
          go_wp2_with (go_at_call 47; refine (clip_any _ acc _ hat hln hle).mono ?_; rintro e w2 ⟨v2, rfl, h2, rfl⟩)
          go_ret3
          rw [hf.out]
          exact ⟨_, rfl, h2, hbel⟩
end Go.Proofs.Ytgkpdkdkpmkgdaa

namespace Go.Proofs.Ytgkpdkdkpmkgdaa
open Go.RowKit
set_option linter.unusedVariables false
theorem readLoop_used (l : List Int) : ∀ (m i : Nat) (acc : List Int), (readLoop l m i acc).2.2 = 0 → 1 + 4 * i ≤ l.length → (readLoop l m i acc).2.1 = ((1 + 4 * (i + m) : Nat) : Int) ∧ 1 + 4 * (i + m) ≤ l.length := by
  intro m
  induction m with
  | zero => intro i acc _ h; simp only [readLoop, Nat.add_zero]; exact ⟨by omega, h⟩
  | succ m ih =>
    intro i acc h hi
    rw [readLoop] at h ⊢
    by_cases h1 : l.length < 1 + 4 * i + 4
    · rw [if_pos h1] at h; cases h
    · rw [if_neg h1] at h ⊢
      by_cases h2 : nextOk acc (fourAt l (1 + 4 * i)) = true
      · rw [if_pos h2] at h ⊢
        obtain ⟨k1, k2⟩ := ih (i + 1) _ h (by omega)
        rw [show i + (m + 1) = i + 1 + m by omega]
        exact ⟨k1, k2⟩
      · rw [if_neg h2] at h; cases h
theorem readL_used {l : List Int} (ho : Octs l) (h : (readL l).2.2 = 0) : ∃ u : Nat, (readL l).2.1 = u ∧ 1 ≤ u ∧ u ≤ l.length ∧ u ≤ 65 := by
  unfold readL at *
  by_cases h0 : l.length = 0
  · rw [if_pos h0] at h; cases h
  rw [if_neg h0] at h ⊢
  by_cases h1 : l.getD 0 0 > 16
  · rw [if_pos h1] at h; cases h
  rw [if_neg h1] at h ⊢
  have hx := ho.getD 0
  obtain ⟨k1, k2⟩ := readLoop_used l _ 0 [] h (by omega)
  exact ⟨_, k1, by omega, k2, by omega⟩
theorem Octs.drop {l : List Int} (h : Octs l) (k : Nat) : Octs (l.drop k) := fun x hx => h x (List.mem_of_mem_drop hx)
theorem BytesAt.drop {w : World} {g off c k : Nat} {l : List Int} (h : BytesAt w (.slice (some ⟨g, off, none⟩) l.length c) l) (hk : k ≤ l.length) : BytesAt w (.slice (some ⟨g, off + k, none⟩) (l.length - k) (c - k)) (l.drop k) := by
  rcases Nat.lt_or_ge k l.length with h1 | h1
  · rcases h with ⟨h9, _⟩ | ⟨g', off', c', hv, _, hc, hgl, hcell⟩
    · rw [h9] at h1; simp at h1
    · obtain ⟨⟨rfl, rfl⟩, rfl⟩ : (g = g' ∧ off = off') ∧ c = c' := by simpa using hv
      refine .inr ⟨g, off + k, c - k, by rw [List.length_drop], by rw [List.length_drop]; omega, by rw [List.length_drop]; omega, hgl, fun j hj => ?_⟩
      rw [List.length_drop] at hj
      rw [Nat.add_assoc, hcell (k + j) (by omega)]
      simp [List.getD]
  · obtain rfl : k = l.length := by omega
    exact .inl ⟨by simp, _, _, by rw [Nat.sub_self], fun h => by cases h⟩
theorem decode_bad {l : List Int} (h : (readL l).2.2 ≠ 0) : decodeL l = ([], [], 0, (readL l).2.2) := by unfold decodeL; rw [if_neg h]
theorem decode_bad2 {l : List Int} (h : (readL l).2.2 = 0) (h2 : (readL (l.drop (readL l).2.1.toNat)).2.2 ≠ 0) : decodeL l = ([], [], 0, (readL (l.drop (readL l).2.1.toNat)).2.2) := by unfold decodeL; rw [if_pos h, if_neg h2]
theorem decode_good {l : List Int} (h : (readL l).2.2 = 0) (h2 : (readL (l.drop (readL l).2.1.toNat)).2.2 = 0) : decodeL l = ((readL l).1, (readL (l.drop (readL l).2.1.toNat)).1, (readL l).2.1 + (readL (l.drop (readL l).2.1.toNat)).2.1, 0) := by unfold decodeL; rw [if_pos h, if_pos h2]
theorem IntsAt.shape3 {w : World} {v : Value} {l : List Int} (h : IntsAt w v l) : ∃ (ao : Option Addr) (n c : Nat), v = .slice ao n c := by
  obtain ⟨ao, c, h⟩ := h.shape
  exact ⟨ao, _, c, h⟩
set_option maxRecDepth 100000 in
set_option maxHeartbeats 2000000 in
theorem decode_any (v : Value) (l : List Int) (w : World) (h : BytesAt w v l) (ho : Octs l) (hl : l.length ≤ 140737488355328) :
    Calls Try.prog 42 #[v] w fun e w' => ∃ x y, e = .returned (.tuple #[.agg #[x, y], .int .i64 (decodeL l).2.2.1, .int .i64 (decodeL l).2.2.2]) ∧ IntsAt w' x (decodeL l).1 ∧ IntsAt w' y (decodeL l).2.1 ∧ Below w.heap.size w w' := by
  obtain ⟨ao, c, hv⟩ := h.shape
  subst hv
  obtain ⟨W, hW, hbel, hWs, hcell⟩ := box1 w (.slice none 0 0) (.slice none 0 0) 26
  have hb3 : ∀ W', Below W.heap.size W W' → W'.heap[w.heap.size]? = some (.cells #[.slice none 0 0, .slice none 0 0] 26 (0, 0)) := fun W' h => box_last hW h
  have hI : ∀ W', Below W.heap.size W W' → BytesAt W' (.slice ao l.length c) l := fun W' h' => h.below (hbel.trans (h'.mono hbel.size)) (Nat.le_refl _)
  have c1 := setread_any _ l W (hI W (Below.refl _ _)) ho hl
  obtain ⟨m, hm⟩ : ∃ n, n = l.length := ⟨_, rfl⟩
  obtain ⟨r1, hr1⟩ : ∃ r, r = (readL l).1 := ⟨_, rfl⟩
  obtain ⟨e1, he1⟩ : ∃ r, r = (readL l).2.2 := ⟨_, rfl⟩
  by_cases hz : e1 = 0
  · have hz' : (readL l).2.2 = 0 := by rw [← he1]; exact hz
    obtain ⟨u, hu, hu1, hu2, hu3⟩ := readL_used ho hz'
    have hb1 : BytesAt w (.slice ao l.length c) l := h
    rcases h with ⟨h9, _⟩ | ⟨g, off, c', hv, _, hmc, hgl, hcell'⟩
    · rw [h9] at hu2; simp at hu2; omega
    obtain ⟨rfl, rfl⟩ : ao = some ⟨g, off, none⟩ ∧ c = c' := by simp at hv; exact hv
    have hdr : ∀ W', Below W.heap.size W W' → BytesAt W' (.slice (some ⟨g, off + u, none⟩) (l.length - u) (c - u)) (l.drop u) := fun W' h' => (hI W' h').drop hu2
    have hdn : u = c → ∀ W', BytesAt W' (.slice (some ⟨g, off, none⟩) 0 0) (l.drop u) := fun hc W' => .inl ⟨List.drop_eq_nil_of_le (by omega), _, 0, rfl, fun h => by cases h⟩
    have c2 := fun v2 W' (hv2 : BytesAt W' v2 (l.drop u)) => setread_any v2 (l.drop u) W' hv2 (ho.drop u) (by rw [List.length_drop]; omega)
    obtain ⟨r2, hr2⟩ : ∃ r, r = (readL (l.drop u)).1 := ⟨_, rfl⟩
    obtain ⟨u2, hu2'⟩ : ∃ r, r = (readL (l.drop u)).2.1 := ⟨_, rfl⟩
    obtain ⟨e2, he2⟩ : ∃ r, r = (readL (l.drop u)).2.2 := ⟨_, rfl⟩
    have hut : (readL l).2.1.toNat = u := by rw [hu, Int.toNat_natCast]
    have hres : Hid ((e2 = 0 → decodeL l = (r1, r2, (u : Int) + u2, 0)) ∧ (e2 ≠ 0 → decodeL l = ([], [], 0, e2))) := by
      refine ⟨fun h0 => ?_, fun h0 => ?_⟩
      · rw [decode_good hz' (by rw [hut, ← he2]; exact h0), hut, hu, ← hr1, ← hr2, ← hu2']
      · rw [decode_bad2 hz' (by rw [hut, ← he2]; exact h0), hut, ← he2]
    have hu2b : e2 = 0 → 0 ≤ u2 ∧ u2 ≤ 65 := fun h0 => by
      obtain ⟨x, hx, _, _, hx3⟩ := readL_used (ho.drop u) (by rw [← he2]; exact h0)
      rw [hu2', hx]; omega
    rw [← hr1, ← he1, hu, ← hm] at c1
    rw [← hr2, ← hu2', ← he2] at c2
    rw [← hm] at hmc hu2 hdr hl ⊢
    subst hz
    have HB3 := Lib.hid hb3
    have HB := Lib.hid hbel
    subst hW
    have C1 := Lib.hid c1
    have C2 := Lib.hid c2
    have HDR := Lib.hid hdr
    have HDN := Lib.hid hdn
    obtain ⟨G0⟩ : Nonempty Nat := ⟨0⟩
    clear c1 c2 hb3 hbel hI hWs hcell hb1 hcell' hm hr1 he1 hr2 hu2' he2 hdr hdn hut hz' hu hv
    by_cases hz2 : e2 = 0
    · obtain ⟨k1, k2⟩ := hu2b hz2
      obtain ⟨n2, rfl⟩ := Int.eq_ofNat_of_zero_le k1
      have hfin := hres.out.1 hz2
      rw [hfin]
      subst hz2
      clear hfin hres hu2b
      by_cases huc : u = c
      · have HDN' := Lib.hid (HDN.out huc)
        subst huc
        obtain rfl : m = u := by omega
        go_enter Try.func42, Try.ntmps42
        go_wp2_with (first
          | (go_at_call 58; have G1 := G0; clear G0; refine C1.out.mono ?_; rintro e w1 ⟨v1, rfl, i1, b1⟩; obtain ⟨ao1, m1, c1, rfl⟩ := i1.shape3)
          | (go_at_call 58; have G2 := G1; clear G1; refine (C2.out _ w1 (HDN'.out _)).mono ?_; rintro e w2 ⟨v2, rfl, i2, b2⟩; have j2 := b1.trans (b2.mono b1.size); have i12 := i1.below b2 (Nat.le_refl _); obtain ⟨ao2, m2, c2, rfl⟩ := i2.shape3; obtain ⟨_, _, hfr0, hfr1⟩ := pair_cells (HB3.out w2 j2)))
        have jj := HB.out.trans (j2.mono HB.out.size)
        have P := pair_stored (x := .slice ao1 m1 c1) (y := .slice ao2 m2 c2) (HB3.out w2 j2) rfl rfl rfl
        obtain ⟨q0, q1, _, _⟩ := pair_cells P.block
        exact bodyPost_ret (v := .tuple #[.agg #[.slice ao1 m1 c1, .slice ao2 m2 c2], .int .i64 ((m : Int) + n2), .int .i64 0]) (by simp [results, Try.results42, go_sem, q0, q1]) rfl ⟨.slice ao1 m1 c1, .slice ao2 m2 c2, by simp, P.ints _ _ i12, P.ints _ _ i2, P.below _ _ jj (by omega)⟩
      · have huc2 : u < c := by omega
        clear huc
        go_enter Try.func42, Try.ntmps42
        go_wp2_with (first
          | (go_at_call 58; have G1 := G0; clear G0; refine C1.out.mono ?_; rintro e w1 ⟨v1, rfl, i1, b1⟩; obtain ⟨ao1, m1, c1, rfl⟩ := i1.shape3)
          | (go_at_call 58; have G2 := G1; clear G1; refine (C2.out _ w1 (HDR.out w1 b1)).mono ?_; rintro e w2 ⟨v2, rfl, i2, b2⟩; have j2 := b1.trans (b2.mono b1.size); have i12 := i1.below b2 (Nat.le_refl _); obtain ⟨ao2, m2, c2, rfl⟩ := i2.shape3; obtain ⟨_, _, hfr0, hfr1⟩ := pair_cells (HB3.out w2 j2)))
        have jj := HB.out.trans (j2.mono HB.out.size)
        have P := pair_stored (x := .slice ao1 m1 c1) (y := .slice ao2 m2 c2) (HB3.out w2 j2) rfl rfl rfl
        obtain ⟨q0, q1, _, _⟩ := pair_cells P.block
        exact bodyPost_ret (v := .tuple #[.agg #[.slice ao1 m1 c1, .slice ao2 m2 c2], .int .i64 ((u : Int) + n2), .int .i64 0]) (by simp [results, Try.results42, go_sem, q0, q1]) rfl ⟨.slice ao1 m1 c1, .slice ao2 m2 c2, by simp, P.ints _ _ i12, P.ints _ _ i2, P.below _ _ jj (by omega)⟩
    · have hfin := hres.out.2 hz2
      have hz1 : (e2 != 0) = true := by simp [hz2]
      rw [hfin]
      clear hfin hres hu2b hz2
      by_cases huc : u = c
      · have HDN' := Lib.hid (HDN.out huc)
        subst huc
        obtain rfl : m = u := by omega
        go_enter Try.func42, Try.ntmps42
        go_wp2_with (first
          | (go_at_call 58; have G1 := G0; clear G0; refine C1.out.mono ?_; rintro e w1 ⟨v1, rfl, i1, b1⟩; obtain ⟨ao1, m1, c1, rfl⟩ := i1.shape3)
          | (go_at_call 58; have G2 := G1; clear G1; refine (C2.out _ w1 (HDN'.out _)).mono ?_; rintro e w2 ⟨v2, rfl, i2, b2⟩; have j2 := b1.trans (b2.mono b1.size); have i12 := i1.below b2 (Nat.le_refl _); obtain ⟨ao2, m2, c2, rfl⟩ := i2.shape3; obtain ⟨_, _, hfr0, hfr1⟩ := pair_cells (HB3.out w2 j2)))
        have jj := HB.out.trans (j2.mono HB.out.size)
        have P := pair_stored (x := .slice none 0 0) (y := .slice none 0 0) (HB3.out w2 j2) rfl rfl rfl
        obtain ⟨q0, q1, _, _⟩ := pair_cells P.block
        exact bodyPost_ret (v := .tuple #[.agg #[.slice none 0 0, .slice none 0 0], .int .i64 0, .int .i64 e2]) (by simp [results, Try.results42, go_sem, q0, q1]) rfl ⟨.slice none 0 0, .slice none 0 0, by simp, IntsAt.nil _, IntsAt.nil _, P.below _ _ jj (by omega)⟩
      · have huc2 : u < c := by omega
        clear huc
        go_enter Try.func42, Try.ntmps42
        go_wp2_with (first
          | (go_at_call 58; have G1 := G0; clear G0; refine C1.out.mono ?_; rintro e w1 ⟨v1, rfl, i1, b1⟩; obtain ⟨ao1, m1, c1, rfl⟩ := i1.shape3)
          | (go_at_call 58; have G2 := G1; clear G1; refine (C2.out _ w1 (HDR.out w1 b1)).mono ?_; rintro e w2 ⟨v2, rfl, i2, b2⟩; have j2 := b1.trans (b2.mono b1.size); have i12 := i1.below b2 (Nat.le_refl _); obtain ⟨ao2, m2, c2, rfl⟩ := i2.shape3; obtain ⟨_, _, hfr0, hfr1⟩ := pair_cells (HB3.out w2 j2)))
        have jj := HB.out.trans (j2.mono HB.out.size)
        have P := pair_stored (x := .slice none 0 0) (y := .slice none 0 0) (HB3.out w2 j2) rfl rfl rfl
        obtain ⟨q0, q1, _, _⟩ := pair_cells P.block
        exact bodyPost_ret (v := .tuple #[.agg #[.slice none 0 0, .slice none 0 0], .int .i64 0, .int .i64 e2]) (by simp [results, Try.results42, go_sem, q0, q1]) rfl ⟨.slice none 0 0, .slice none 0 0, by simp, IntsAt.nil _, IntsAt.nil _, P.below _ _ jj (by omega)⟩
  · have hbad : Hid (decodeL l = ([], [], 0, e1)) := by show _ = _; rw [he1]; exact decode_bad (by rw [← he1]; exact hz)
    rw [← hr1, ← he1, ← hm] at c1
    rw [hbad.out, ← hm]
    generalize (readL l).2.1 = u at c1
    have hz1 : (e1 != 0) = true := by simp [hz]
    have HB3 := Lib.hid hb3
    have HB := Lib.hid hbel
    subst hW
    have C1 := Lib.hid c1
    clear c1 hb3 hbel hI hWs hcell h hm hr1 he1 hz hbad
    go_enter Try.func42, Try.ntmps42
    go_wp2_with (go_at_call 58; refine C1.out.mono ?_; rintro e w1 ⟨v1, rfl, i1, b1⟩; obtain ⟨ao1, m1, c1, rfl⟩ := i1.shape3; obtain ⟨_, _, hfr0, hfr1⟩ := pair_cells (HB3.out w1 b1))
    have jj := HB.out.trans (b1.mono HB.out.size)
    have P := pair_stored (x := .slice none 0 0) (y := .slice none 0 0) (HB3.out w1 b1) rfl rfl rfl
    obtain ⟨q0, q1, _, _⟩ := pair_cells P.block
    exact bodyPost_ret (v := .tuple #[.agg #[.slice none 0 0, .slice none 0 0], .int .i64 0, .int .i64 e1]) (by simp [results, Try.results42, go_sem, q0, q1]) rfl ⟨.slice none 0 0, .slice none 0 0, by simp, IntsAt.nil _, IntsAt.nil _, P.below _ _ jj (by omega)⟩
end Go.Proofs.Ytgkpdkdkpmkgdaa

namespace Go.Proofs.Ytgkpdkdkpmkgdaa
open Go.RowKit
set_option linter.unusedVariables false
theorem clipb_any (v : Value) (l : List Int) (w : World) (h : BytesAt w v l) (hl : l.length ≤ 4611686018427387904) (hm : ∀ ao n c, v = .slice ao n c → n ≤ c ∧ c ≤ maxLen) :
    Calls Try.prog 56 #[v] w fun e w' => ∃ v', e = .returned v' ∧ BytesAt w v' l ∧ w' = w := by
  obtain ⟨ao, c, rfl⟩ := h.shape
  obtain ⟨h1, h2⟩ := hm _ _ _ rfl
  unfold maxLen at h2
  cases ao with
  | none =>
    rcases h with ⟨rfl, ao, c', hv, hc⟩ | ⟨g, off, c', hv, _⟩
    · obtain ⟨rfl, rfl⟩ : ao = none ∧ c = c' := by simp at hv; exact ⟨hv.1.symm, hv.2⟩
      obtain rfl := hc rfl
      go_enter Try.func56, Try.ntmps56
      go_wp2
      go_ret
      exact ⟨_, rfl, .inl ⟨rfl, none, 0, rfl, fun _ => rfl⟩, rfl⟩
    · cases hv
  | some ad =>
    obtain ⟨b, o, sp⟩ := ad
    have hi : ∀ v' : Value, v' = .slice (some ⟨b, o, sp⟩) l.length l.length → BytesAt w v' l := by
      intro v' hv'
      rcases h with ⟨hl0, ao, c', hv, hc⟩ | ⟨g, off, c', hv, k0, k1, k2, k3⟩
      · exact .inl ⟨hl0, some ⟨b, o, sp⟩, 0, by rw [hv', hl0]; rfl, fun h => by cases h⟩
      · obtain ⟨⟨rfl, rfl, rfl⟩, rfl⟩ : (b = g ∧ o = off ∧ sp = none) ∧ c = c' := by simpa using hv
        exact .inr ⟨b, o, l.length, hv', k0, Nat.le_refl _, k2, k3⟩
    clear h hm
    obtain ⟨n, hn⟩ : ∃ n, n = l.length := ⟨_, rfl⟩
    rw [← hn] at h1 hl hi ⊢
    clear hn
    go_enter Try.func56, Try.ntmps56
    go_wp2
    go_ret
    exact ⟨_, rfl, hi _ rfl, rfl⟩
def encBoth (la lb : List Int) : List Int := if setL la && setL lb then encL la ++ encL lb else []
def encErr (la lb : List Int) : Int := if setL la && setL lb then 0 else 1
/-- The bytes ahead of the k-th set. -/
def encPre (la lb : List Int) : Nat → List Int
  | 0 => []
  | 1 => encL la
  | _ => encL la ++ encL lb
theorem setL_bounds {l : List Int} (h : setL l = true) {j : Nat} (hj : j < l.length) : 1 ≤ l.getD j 0 ∧ l.getD j 0 ≤ 2147483647 := by
  unfold setL at h
  simp only [Bool.and_eq_true] at h
  cases hc : risesTo l (j + 1) with
  | false => have := risesTo_mono _ hc _ hj; rw [h.1] at this; cases this
  | true =>
    rw [risesTo] at hc
    simp only [Bool.and_eq_true, decide_eq_true_eq] at hc
    exact hc.2.1
theorem enc4_small (x : Int) (h0 : 0 ≤ x) (h1 : x ≤ 2147483647) : enc4 x = [x / 16777216, x / 65536 % 256, x / 256 % 256, x % 256] := by
  unfold enc4
  rw [show x / 16777216 % 256 = x / 16777216 by omega]
theorem encBody_take {l : List Int} {j : Nat} (hj : j < l.length) : encBody (l.take (j + 1)) = encBody (l.take j) ++ enc4 (l.getD j 0) := by
  have e : l.take (j + 1) = l.take j ++ [l.getD j 0] := by
    rw [List.take_add_one]; simp [List.getD, hj]
  rw [e, encBody_append]
  simp [encBody]
set_option maxRecDepth 100000 in
set_option maxHeartbeats 2000000 in
theorem encode_any (a b : Value) (la lb : List Int) (w : World) (ha : IntsAt w a la) (hb : IntsAt w b lb) (na : la.length ≤ 17592186043904) (nb : lb.length ≤ 17592186043904) :
    Calls Try.prog 40 #[.agg #[a, b]] w fun e w' => ∃ v', e = .returned (.tuple #[v', .int .i64 (encErr la lb)]) ∧ BytesAt w' v' (encBoth la lb) ∧ Below w.heap.size w w' := by
  obtain ⟨i0, hi, hz0, hz1, hz2⟩ := info_parts info5
  obtain ⟨aoa, ca, hva⟩ := ha.shape
  obtain ⟨aob, cb, hvb⟩ := hb.shape
  subst hva hvb
  obtain ⟨ma, hma⟩ : ∃ n, n = la.length := ⟨_, rfl⟩
  obtain ⟨mb, hmb⟩ : ∃ n, n = lb.length := ⟨_, rfl⟩
  rw [← hma] at ha na ⊢
  rw [← hmb] at hb nb ⊢
  obtain ⟨W, hW, hbel, hWs, hcell⟩ := box1 w (.slice aoa ma ca) (.slice aob mb cb) 26
  have hA : ∀ W', Below W.heap.size W W' → IntsAt W' (.slice aoa ma ca) la ∧ IntsAt W' (.slice aob mb cb) lb := fun W' h => have k := hbel.trans (h.mono hbel.size); ⟨ha.below k (Nat.le_refl _), hb.below k (Nat.le_refl _)⟩
  have c1 := may_any _ _ la lb W (hA W (Below.refl _ _)).1 (hA W (Below.refl _ _)).2 (by rw [← hma]; exact na) (by rw [← hmb]; exact nb)
  obtain ⟨s, hs⟩ : ∃ s, s = (setL la && setL lb) := ⟨_, rfl⟩
  have hE : Hid (encErr la lb = (if s then 0 else 1) ∧ encBoth la lb = if s then encL la ++ encL lb else []) := by rw [hs]; exact ⟨rfl, rfl⟩
  rw [← hs] at c1
  have HB := Lib.hid hbel
  have HC := Lib.hid hcell
  have HA := Lib.hid hA
  have HH0 : Hid ((∀ W', Below w.heap.size w W' → IntsAt W' (.slice aoa ma ca) la) ∧ (∀ W', Below w.heap.size w W' → IntsAt W' (.slice aob mb cb) lb)) := ⟨fun W' h => ha.below h (Nat.le_refl _), fun W' h => hb.below h (Nat.le_refl _)⟩
  have C1 := Lib.hid c1
  have Hma := Lib.hid hma
  have Hmb := Lib.hid hmb
  have Hs := Lib.hid hs
  subst hW
  clear hbel hcell hA c1 hma hmb ha hb hs hWs
  rcases s with _ | _
  · rw [hE.out.1, hE.out.2]
    clear hE
    go_enter Try.func40, Try.ntmps40
    go_wp2_with (go_at_call 10; refine C1.out.mono ?_; rintro e w1 ⟨rfl, b1⟩)
    go_ret2
    exact ⟨_, rfl, BytesAt.nil _, HB.out.trans (b1.mono HB.out.size)⟩
  · rw [hE.out.1, hE.out.2]
    clear hE
    go_enter Try.func40, Try.ntmps40
    go_wp2_with (go_at_call 10; refine C1.out.mono ?_; rintro e w1 ⟨rfl, b1⟩; obtain ⟨d0, d1⟩ := HC.out w1 b1)
    have HH := HH0
    clear HH0
    have few : Hid (ma ≤ 16 ∧ mb ≤ 16 ∧ setL la = true ∧ setL lb = true) := by
      have h := Hs.out
      simp only [Bool.true_eq, Bool.and_eq_true] at h
      refine ⟨?_, ?_, h.1, h.2⟩
      · rw [Hma.out]; have := h.1; unfold setL at this; simp only [Bool.and_eq_true, decide_eq_true_eq] at this; exact this.2
      · rw [Hmb.out]; have := h.2; unfold setL at this; simp only [Bool.and_eq_true, decide_eq_true_eq] at this; exact this.2
    have ix0 : ∀ w, (Instr.index 66 (.agg #[.slice aoa ma ca, .slice aob mb cb]) (.int .i64 0)).run Try.prog w = .ok (.slice aoa ma ca) w := fun _ => by kernel_rfl
    have ix1 : ∀ w, (Instr.index 66 (.agg #[.slice aoa ma ca, .slice aob mb cb]) (.int .i64 1)).run Try.prog w = .ok (.slice aob mb cb) w := fun _ => by kernel_rfl
    have HA0 : Hid ((∀ W', Below w.heap.size w W' → IntsAt W' (.slice aoa ma ca) la) ∧ (∀ W', Below w.heap.size w W' → IntsAt W' (.slice aob mb cb) lb)) := HH
    go_loopw [4, 17] (fun u i wr => ∃ (k n : Nat) (ao : Option Addr) (c : Nat), k ≤ 2 ∧ i = .int .i64 k ∧ u = .slice ao n c ∧ n ≤ 65 * k ∧ (encPre la lb k).length = n ∧ wr.ownsRow w.heap.size 5 1 (.slice ao n c) n (octets (encPre la lb k)) ∧ Below w.heap.size w wr) (fun _ i _ => 2 - (intOf i).toNat)
    case atStart => exact ⟨0, 0, none, 0, by omega, rfl, rfl, by omega, rfl, by simpa [encPre, octets] using World.ownsRow_nil _ _ _ _, HB.out.trans (b1.mono HB.out.size)⟩
    case round =>
      obtain ⟨k, n, ao, c, hk, rfl, rfl, hn, hpl, hown, hbel⟩ := hrel
      have Hpl := Lib.hid hpl
      have Hown := Lib.hid hown
      clear hpl hown
      by_cases hk2 : k < 2
      · obtain ⟨aoL, mL, cL, lL, ixk, hmL, hmf, hsL, hiL, hpre⟩ : ∃ (aoL : Option Addr) (mL cL : Nat) (lL : List Int), (∀ w, (Instr.index 66 (.agg #[.slice aoa ma ca, .slice aob mb cb]) (.int .i64 (k : Int))).run Try.prog w = .ok (.slice aoL mL cL) w) ∧ mL = lL.length ∧ mL ≤ 16 ∧ setL lL = true ∧ (∀ W', Below w.heap.size w W' → IntsAt W' (.slice aoL mL cL) lL) ∧ encPre la lb (k + 1) = encPre la lb k ++ encL lL := by
          rcases (show k = 0 ∨ k = 1 by omega) with rfl | rfl
          · exact ⟨aoa, ma, ca, la, ix0, Hma.out, few.out.1, few.out.2.2.1, HA0.out.1, rfl⟩
          · exact ⟨aob, mb, cb, lb, ix1, Hmb.out, few.out.2.1, few.out.2.2.2, HA0.out.2, rfl⟩
        have HmL := Lib.hid hmL
        have HsL := Lib.hid hsL
        have HiL := Lib.hid hiL
        have Hpre := Lib.hid hpre
        clear hmL hsL hiL hpre ix0 ix1
        have wl : IntKind.u8.wrap (mL : Int) = mL := by simp [IntKind.wrap, IntKind.signed, IntKind.bits]; omega
        have wl2 : (mL : Int) % 256 = mL := by omega
        go_wp2_with (first
          | ((with_reducible show wpList _ _ _ (⟨some 25, _, _, _, _, _⟩ :: _) _ _); go_must (refine wpList_append_bytes rfl _ _ 47 rfl w.heap.size 5 i0 (.int .u8 0) und47 hi hz0 hz1 hz2 rfl _ n (encPre la lb k) [(mL : Int)] rfl (Hown.out.alloc _) _ rfl (BytesAt.new wr 5 [(mL : Int)] (by simp)) (by simp <;> omega) (by have := hbel.size; simp <;> omega) ?_; intro v4 w4 hown4 hg4 hn4; simp only [Act.put, List.setIfInBounds_toArray, List.set_cons_zero, List.set_cons_succ]; obtain ⟨ao4, c4, rfl, hc4, _⟩ := owns_shape hown4; have Hown4 := Lib.hid hown4; clear hown4 hn4)))
        go_loopw [4, 28] (fun u i wr => ∃ (j n2 : Nat) (ao : Option Addr) (c : Nat), j ≤ mL ∧ i = .int .i64 j ∧ u = .slice ao n2 c ∧ n2 = n + 1 + 4 * j ∧ wr.ownsRow w.heap.size 5 1 (.slice ao n2 c) n2 (octets (encPre la lb k ++ [(mL : Int)] ++ encBody (lL.take j))) ∧ Below w.heap.size w wr) (fun _ i _ => mL - (intOf i).toNat)
        case atStart => exact ⟨0, n + 1, ao4, c4, by omega, rfl, rfl, by omega, by simpa [encBody] using Hown4.out, (hbel.alloc hbel.size _).grown hg4 (by have := hbel.size; simp; omega) (fun q hq => (Hown.out.lt q hq).1)⟩
        case round =>
          clear hg4 Hown4 hc4
          rename_i wr2 _
          obtain ⟨j, n2, ao2, c2, hj, rfl, rfl, hn2, hown2, hbel2⟩ := hrel
          have Hown2 := Lib.hid hown2
          have Hn2 := Lib.hid hn2
          have hn2' : n2 ≤ 300 := by omega
          clear hown2 hn2
          by_cases hlt : j < mL
          · have hia := HiL.out _ hbel2
            rw [HmL.out] at hia
            obtain ⟨g, off, c', hv, hcell⟩ := hia.cells (by have := HmL.out; omega)
            obtain ⟨rfl, rfl⟩ : aoL = some ⟨g, off, none⟩ ∧ cL = c' := by simpa using hv
            have c0 := hcell j (by have := HmL.out; omega)
            have hx := setL_bounds HsL.out (j := j) (by have := HmL.out; omega)
            have Htk := Lib.hid (encBody_take (l := lL) (j := j) (by have := HmL.out; omega))
            generalize lL.getD j 0 = x at c0 hx Htk
            have H4 : Hid (enc4 x = [x / 16777216, x / 65536 % 256, x / 256 % 256, x % 256]) := enc4_small x (by omega) hx.2
            clear hia hcell hv
            go_wp2_with (first
              | ((with_reducible show wpList _ _ _ (⟨some 45, _, _, _, _, _⟩ :: _) _ _); go_must (refine wpList_append_bytes rfl _ _ 47 rfl w.heap.size 5 i0 (.int .u8 0) und47 hi hz0 hz1 hz2 rfl _ n2 _ [x / 16777216, x / 65536 % 256, x / 256 % 256, x % 256] rfl (Hown2.out.alloc _) _ rfl (BytesAt.new _ 5 [x / 16777216, x / 65536 % 256, x / 256 % 256, x % 256] (by simp)) (by simp <;> omega) (by have := hbel2.size; simp <;> omega) ?_; intro v6 w6 hown6 hg6 hn6; simp only [Act.put, List.setIfInBounds_toArray, List.set_cons_zero, List.set_cons_succ]; obtain ⟨ao6, c6, rfl, hc6, _⟩ := owns_shape hown6; have Hown6 := Lib.hid hown6; clear hown6 hn6)))
            refine ⟨⟨j + 1, n2 + 4, ao6, c6, by omega, by go_num, rfl, by have := Hn2.out; omega, ?_, (hbel2.alloc hbel2.size _).grown hg6 (by have := hbel2.size; simp; omega) (fun q hq => (Hown2.out.lt q hq).1)⟩, by simp [intOf]; omega⟩
            rw [Htk.out, H4.out, ← List.append_assoc]
            exact Hown6.out
          · obtain rfl : j = mL := by omega
            have e9 : encPre la lb k ++ [(j : Int)] ++ encBody (lL.take j) = encPre la lb (k + 1) := by
              rw [Hpre.out, List.take_of_length_le (by have := HmL.out; omega), encL, List.append_assoc, ← HmL.out, wl2]; rfl
            have E9 := Lib.hid e9
            clear e9
            go_wp2
            refine ⟨⟨k + 1, n2, ao2, c2, by omega, by go_num, rfl, by have := Hn2.out; omega, ?_, ?_, hbel2⟩, by simp [intOf]; omega⟩
            · have h1 := Hown2.out.1
              rw [← E9.out]; simpa [octets] using h1
            · rw [← E9.out]; exact Hown2.out
      · obtain rfl : k = 2 := by omega
        have hat : BytesAt wr (.slice ao n c) (encL la ++ encL lb) := BytesAt.of_owns Hown.out
        have hle := owns_le Hown.out
        have hln : (encL la ++ encL lb).length ≤ 4611686018427387904 := by have : (encL la ++ encL lb).length = n := Hpl.out; omega
        clear ix0 ix1
        go_wp2_with (go_at_call 56; refine (clipb_any _ _ _ hat hln hle).mono ?_; rintro e w2 ⟨v2, rfl, h2, rfl⟩)
        go_ret2
        exact ⟨_, rfl, h2, hbel⟩
end Go.Proofs.Ytgkpdkdkpmkgdaa
