/- hash.Stretch sums a text with its salt as often as it is to be; the law's own awake answers true. -/
import Derived.Test.YtkgbldkjpohinaaGreatDoorShaSum
import Derived.Test.YtkgbldkjpohinaaGreatDoorHex
import Derived.Lib.SlBytesConst
namespace Go.Proofs.YtkgbldkjpohinaaGreatDoor
open Go.RowKit
section
variable {P : Program} {ops : Array Oper} {Q : Exit → Act → World → Prop} {a : Act} {w : World} {rest : List Oper} {o : Oper}
theorem wpList_max (hg : o.guard = none) (x y : Operand) (t : TypeId) (hop : o.op = .call { callee := .builtin .max, args := #[x, y], argTypes := #[t, t] }) (p q : Int)
    (hx : a.eval x = .int .i64 p) (hy : a.eval y = .int .i64 q) (h : wpList P ops Q rest (a.put o.dst (.int .i64 (max p q))) w) : wpList P ops Q (o :: rest) a w :=
  wpList_val hg _ (by
    simp [execOp, hop, resolve, invoke, builtin, hx, hy, Builtin.max_, Builtin.max2]
    split <;> omega) h
theorem wpList_min (hg : o.guard = none) (x y : Operand) (t : TypeId) (hop : o.op = .call { callee := .builtin .min, args := #[x, y], argTypes := #[t, t] }) (p q : Int)
    (hx : a.eval x = .int .i64 p) (hy : a.eval y = .int .i64 q) (h : wpList P ops Q rest (a.put o.dst (.int .i64 (min p q))) w) : wpList P ops Q (o :: rest) a w :=
  wpList_val hg _ (by
    simp [execOp, hop, resolve, invoke, builtin, hx, hy, Builtin.min_, Builtin.min2]
    split <;> omega) h
end
/-- A text's sum with salt, k times more. -/
def stretchL (a b : List Int) : Nat → List Int
  | 0 => shaL (a ++ [0] ++ b)
  | k + 1 => shaL (stretchL a b k ++ a ++ b)
theorem stretchL_octs (a b : List Int) (k : Nat) : Octs (stretchL a b k) := by cases k <;> exact shaL_octs _
theorem stretchL_length (a b : List Int) (k : Nat) : (stretchL a b k).length = 32 := by cases k <;> exact shaL_length _
theorem str_octs (a b : ByteArray) (l : List Int) (hl : Octs l) : Octs (l ++ bytesOf a ++ bytesOf b) := (hl.append (bytesOf_octs a)).append (bytesOf_octs b)
theorem bytesOf_nul : bytesOf { data := #[0] } = [0] := rfl
theorem octs_nul : Octs [0] := fun x hx => by simp at hx; omega
set_option maxRecDepth 100000 in
set_option maxHeartbeats 1000000 in
theorem stretch_any (salt pass : ByteArray) (times : Int) (w : World) (hs : salt.size + pass.size ≤ 1073741824) :
    Calls Tryz.prog 17 #[.string salt, .string pass, .int .i64 times] w fun e w' => e = .returned (.string (strOfNums (hexL (stretchL (bytesOf salt) (bytesOf pass) (min (max times 0) 1000).toNat)))) ∧ Below w.heap.size w w' := by
  obtain ⟨n, hn⟩ : ∃ n : Nat, (n : Int) = min (max times 0) 1000 := ⟨(min (max times 0) 1000).toNat, by omega⟩
  have hnt : (min (max times 0) 1000).toNat = n := by omega
  have hn2 : n ≤ 1000 := by omega
  rw [hnt]
  clear hnt
  have Hn := Lib.hid hn
  clear hn
  go_enter Tryz.func17, Tryz.ntmps17
  go_wp2_with (first
    | ((with_reducible show wpList _ _ _ (⟨some 12, _, _, _, _, _⟩ :: _) _ _); go_must (refine wpList_string_bytes rfl 9 80 5 _ rfl _ und9 und23 und5 rfl ?_; intro v1 w1 hB1 hb1; simp only [Act.put, List.setIfInBounds_toArray, List.set_cons_zero, List.set_cons_succ]; rw [bytesOf_append, bytesOf_append, bytesOf_nul] at hB1))
    | ((with_reducible show wpList _ _ _ (⟨some 15, _, _, _, _, _⟩ :: _) _ _); go_must (refine wpList_max rfl _ _ 3 rfl _ _ rfl rfl ?_); simp only [Act.put, List.setIfInBounds_toArray, List.set_cons_zero, List.set_cons_succ])
    | ((with_reducible show wpList _ _ _ (⟨some 16, _, _, _, _, _⟩ :: _) _ _); go_must (refine wpList_min rfl _ _ 3 rfl _ _ rfl rfl ?_); simp only [Act.put, List.setIfInBounds_toArray, List.set_cons_zero, List.set_cons_succ]; rw [← Hn.out])
    | (go_at_call 36; refine (sha_any _ _ _ hB1 (((bytesOf_octs _).append octs_nul).append (bytesOf_octs _)) (by simp only [List.length_append, bytesOf_length]; simp; omega)).mono ?_; rintro e w2 ⟨v2, rfl, hown2, hb2⟩))
  have hb : Below w.heap.size w w2 := hb1.trans (hb2.mono hb1.size)
  have hB2 : BytesAt w2 v2 (stretchL (bytesOf salt) (bytesOf pass) 0) := BytesAt.of_owns hown2
  clear hown2 hb2 hB1 hb1
  go_loopw [7, 17] (fun u i wr => ∃ k : Nat, k ≤ n ∧ i = .int .i64 k ∧ BytesAt wr u (stretchL (bytesOf salt) (bytesOf pass) k) ∧ Below w.heap.size w wr) (fun _ i _ => n - (intOf i).toNat)
  case atStart => exact ⟨0, by omega, rfl, hB2, hb⟩
  case round =>
    clear hB2 hb
    obtain ⟨k, hk, rfl, hB, hb⟩ := hrel
    obtain ⟨ao, c, rfl⟩ := hB.shape
    by_cases hlt : k < n
    · have hsz : (strOfNums (stretchL (bytesOf salt) (bytesOf pass) k)).size = 32 := by rw [strOfNums_size, stretchL_length]
      go_wp2_with (first
        | ((with_reducible show wpList _ _ _ (⟨some 20, _, _, _, _, _⟩ :: _) _ _); go_must (refine wpList_convert_bytes rfl 80 9 5 _ rfl _ _ und23 und5 und9 rfl hB ?_); simp only [Act.put, List.setIfInBounds_toArray, List.set_cons_zero, List.set_cons_succ])
        | ((with_reducible show wpList _ _ _ (⟨some 25, _, _, _, _, _⟩ :: _) _ _); go_must (refine wpList_string_bytes rfl 9 80 5 _ rfl _ und9 und23 und5 rfl ?_; intro v3 w3 hB3 hb3; simp only [Act.put, List.setIfInBounds_toArray, List.set_cons_zero, List.set_cons_succ]; rw [bytesOf_append, bytesOf_append, bytesOf_strOfNums (stretchL_octs _ _ _)] at hB3))
        | (go_at_call 36; refine (sha_any _ _ _ hB3 (str_octs _ _ _ (stretchL_octs _ _ _)) (by simp only [List.length_append, bytesOf_length, stretchL_length]; omega)).mono ?_; rintro e w4 ⟨v4, rfl, hown4, hb4⟩))
      go_roundw
      case rel =>
        exact ⟨k + 1, by omega, by go_num, BytesAt.of_owns hown4, (hb.trans (hb3.mono hb.size)).trans (hb4.mono (by have := hb.size; have := hb3.size; omega))⟩
      case measure => first | (simp [intOf]; done) | (simp [intOf]; omega)
    · obtain rfl : k = n := by omega
      go_wp2_with (go_at_call 37; refine (hex_any _ _ _ hB (stretchL_octs _ _ _) (by rw [stretchL_length]; omega)).mono ?_; rintro e w3 ⟨rfl, hb3⟩)
      go_ret
      exact ⟨rfl, hb.trans (hb3.mono hb.size)⟩
end Go.Proofs.YtkgbldkjpohinaaGreatDoor
