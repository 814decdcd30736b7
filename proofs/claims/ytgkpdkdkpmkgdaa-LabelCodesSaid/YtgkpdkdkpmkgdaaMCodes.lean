/- The reference's Decode and Encode, and the law on codes: the walk. -/
import Derived.Test.YtgkpdkdkpmkgdaaMCoder
import Derived.Test.YtgkpdkdkpmkgdaaPDecodex1
import Derived.Test.YtgkpdkdkpmkgdaaPEncodex1
import Derived.Test.YtgkpdkdkpmkgdaaWrapB
import Derived.Test.YtgkpdkdkpmkgdaaAwake
import Derived.Deep.DeepCutAuto
namespace Go.Proofs.Ytgkpdkdkpmkgdaa
open Go.RowKit Go.Proofs.YtgkpdkdkpmkgdaaW.PrintWords
set_option linter.unusedVariables false
theorem wrap_small (x : Int) (h0 : 0 ≤ x) (h1 : x ≤ 9223372036854775807) : wrap64 x = x := by unfold wrap64; omega
theorem rd_nat (l : List Int) (i : Nat) : rd l (i : Int) = l.getD i 0 := by unfold rd; rw [Int.toNat_natCast]
theorem PDecode_set_l0 (l : List Int) (hl : l.length ≤ 17592186043904) : ∀ (d k i : Nat), l.length - i = d → d < k → i ≤ l.length → risesTo l i = true → PDecode.lazaretref3_Set.l0 k l (i : Int) = some (setL l) := by
  intro d
  induction d with
  | zero =>
    intro k i hd hk hi hr
    obtain ⟨k, rfl⟩ : ∃ m, k = m + 1 := ⟨k - 1, by omega⟩
    obtain rfl : i = l.length := by omega
    have e : setL l = decide ((l.length : Int) ≤ 16) := by unfold setL; rw [hr, Bool.true_and, decide_eq_decide]; omega
    simp only [PDecode.lazaretref3_Set.l0]
    rw [if_neg (by omega), e]
  | succ d ih =>
    intro k i hd hk hi hr
    obtain ⟨k, rfl⟩ : ∃ m, k = m + 1 := ⟨k - 1, by omega⟩
    have hlt : i < l.length := by omega
    have hstep : risesTo l (i + 1) = (decide (1 ≤ l.getD i 0) && decide (l.getD i 0 ≤ 2147483647) && (decide (i = 0) || decide (l.getD (i - 1) 0 < l.getD i 0))) := by rw [risesTo, hr]; rfl
    have w1 : wrap64 ((i : Int) + 1) = ((i + 1 : Nat) : Int) := by rw [wrap_small _ (by omega) (by omega)]; omega
    have fin : risesTo l (i + 1) = false → some false = some (setL l) := fun h => by rw [setL_false hlt h]
    simp only [PDecode.lazaretref3_Set.l0]
    rw [if_pos (by omega), if_pos (by omega), rd_nat, w1]
    by_cases h1 : l.getD i 0 < 1
    · rw [if_pos h1]
      exact fin (by rw [hstep, decide_eq_false (by omega : ¬ 1 ≤ l.getD i 0)]; rfl)
    rw [if_neg h1]
    by_cases h2 : l.getD i 0 > 2147483647
    · rw [if_pos h2]
      exact fin (by rw [hstep, decide_eq_false (by omega : ¬ l.getD i 0 ≤ 2147483647), Bool.and_false]; rfl)
    rw [if_neg h2]
    rcases Nat.eq_zero_or_pos i with h0 | h0
    · subst h0
      have hr2 : risesTo l (0 + 1) = true := by rw [hstep, decide_eq_true (by omega : 1 ≤ l.getD 0 0), decide_eq_true (by omega : l.getD 0 0 ≤ 2147483647)]; simp
      rw [if_neg (by omega)]
      exact ih k (0 + 1) (by omega) (by omega) (by omega) hr2
    · have e2 : wrap64 ((i : Int) - 1) = ((i - 1 : Nat) : Int) := by rw [wrap_small _ (by omega) (by omega)]; omega
      rw [if_pos (by omega), e2, rd_nat, if_pos (by omega), if_pos (by omega)]
      by_cases h3 : l.getD i 0 ≤ l.getD (i - 1) 0
      · rw [if_pos h3]
        exact fin (by rw [hstep, decide_eq_false (by omega : ¬ i = 0), decide_eq_false (by omega : ¬ l.getD (i - 1) 0 < l.getD i 0)]; simp)
      · rw [if_neg h3]
        exact ih k (i + 1) (by omega) (by omega) (by omega) (by rw [hstep, decide_eq_true (by omega : 1 ≤ l.getD i 0), decide_eq_true (by omega : l.getD i 0 ≤ 2147483647), decide_eq_true (by omega : l.getD (i - 1) 0 < l.getD i 0)]; simp)
theorem PDecode_set_f (l : List Int) (k : Nat) (hl : l.length ≤ 17592186043904) (hk : l.length < k) : PDecode.lazaretref3_Set.f k l = some (setL l) :=
  PDecode_set_l0 l hl _ k 0 rfl (by omega) (by omega) rfl
theorem PEncode_set_l0 (l : List Int) (hl : l.length ≤ 17592186043904) : ∀ (d k i : Nat), l.length - i = d → d < k → i ≤ l.length → risesTo l i = true → PEncode.lazaretref3_Set.l0 k l (i : Int) = some (setL l) := by
  intro d
  induction d with
  | zero =>
    intro k i hd hk hi hr
    obtain ⟨k, rfl⟩ : ∃ m, k = m + 1 := ⟨k - 1, by omega⟩
    obtain rfl : i = l.length := by omega
    have e : setL l = decide ((l.length : Int) ≤ 16) := by unfold setL; rw [hr, Bool.true_and, decide_eq_decide]; omega
    simp only [PEncode.lazaretref3_Set.l0]
    rw [if_neg (by omega), e]
  | succ d ih =>
    intro k i hd hk hi hr
    obtain ⟨k, rfl⟩ : ∃ m, k = m + 1 := ⟨k - 1, by omega⟩
    have hlt : i < l.length := by omega
    have hstep : risesTo l (i + 1) = (decide (1 ≤ l.getD i 0) && decide (l.getD i 0 ≤ 2147483647) && (decide (i = 0) || decide (l.getD (i - 1) 0 < l.getD i 0))) := by rw [risesTo, hr]; rfl
    have w1 : wrap64 ((i : Int) + 1) = ((i + 1 : Nat) : Int) := by rw [wrap_small _ (by omega) (by omega)]; omega
    have fin : risesTo l (i + 1) = false → some false = some (setL l) := fun h => by rw [setL_false hlt h]
    simp only [PEncode.lazaretref3_Set.l0]
    rw [if_pos (by omega), if_pos (by omega), rd_nat, w1]
    by_cases h1 : l.getD i 0 < 1
    · rw [if_pos h1]
      exact fin (by rw [hstep, decide_eq_false (by omega : ¬ 1 ≤ l.getD i 0)]; rfl)
    rw [if_neg h1]
    by_cases h2 : l.getD i 0 > 2147483647
    · rw [if_pos h2]
      exact fin (by rw [hstep, decide_eq_false (by omega : ¬ l.getD i 0 ≤ 2147483647), Bool.and_false]; rfl)
    rw [if_neg h2]
    rcases Nat.eq_zero_or_pos i with h0 | h0
    · subst h0
      have hr2 : risesTo l (0 + 1) = true := by rw [hstep, decide_eq_true (by omega : 1 ≤ l.getD 0 0), decide_eq_true (by omega : l.getD 0 0 ≤ 2147483647)]; simp
      rw [if_neg (by omega)]
      exact ih k (0 + 1) (by omega) (by omega) (by omega) hr2
    · have e2 : wrap64 ((i : Int) - 1) = ((i - 1 : Nat) : Int) := by rw [wrap_small _ (by omega) (by omega)]; omega
      rw [if_pos (by omega), e2, rd_nat, if_pos (by omega), if_pos (by omega)]
      by_cases h3 : l.getD i 0 ≤ l.getD (i - 1) 0
      · rw [if_pos h3]
        exact fin (by rw [hstep, decide_eq_false (by omega : ¬ i = 0), decide_eq_false (by omega : ¬ l.getD (i - 1) 0 < l.getD i 0)]; simp)
      · rw [if_neg h3]
        exact ih k (i + 1) (by omega) (by omega) (by omega) (by rw [hstep, decide_eq_true (by omega : 1 ≤ l.getD i 0), decide_eq_true (by omega : l.getD i 0 ≤ 2147483647), decide_eq_true (by omega : l.getD (i - 1) 0 < l.getD i 0)]; simp)
theorem PEncode_set_f (l : List Int) (k : Nat) (hl : l.length ≤ 17592186043904) (hk : l.length < k) : PEncode.lazaretref3_Set.f k l = some (setL l) :=
  PEncode_set_l0 l hl _ k 0 rfl (by omega) (by omega) rfl
theorem may_f (a b : List Int) (k : Nat) (ha : a.length ≤ 17592186043904) (hb : b.length ≤ 17592186043904) (hka : a.length < k) (hkb : b.length < k) : PEncode.lazaretref3_May.f k a b = some (setL a && setL b) := by
  unfold PEncode.lazaretref3_May.f
  rw [PEncode_set_f a k ha hka, PEncode_set_f b k hb hkb]
  simp only [Option.bind_some]
  cases setL a <;> simp
theorem code_l0 (l : List Int) (hl : l.length ≤ 17592186043904) : ∀ (d k i : Nat) (acc : List Int), l.length - i = d → d < k → i ≤ l.length → acc.length = 1 + 4 * i → PEncode.lazaretref3_code.l0 k l acc (i : Int) = some (strOfNums (acc ++ encBody (l.drop i))) := by
  intro d
  induction d with
  | zero =>
    intro k i acc hd hk hi hacc
    obtain ⟨k, rfl⟩ : ∃ m, k = m + 1 := ⟨k - 1, by omega⟩
    obtain rfl : i = l.length := by omega
    simp only [PEncode.lazaretref3_code.l0]
    rw [if_neg (by omega), List.drop_length, encBody, List.append_nil]
  | succ d ih =>
    intro k i acc hd hk hi hacc
    obtain ⟨k, rfl⟩ : ∃ m, k = m + 1 := ⟨k - 1, by omega⟩
    have hlt : i < l.length := by omega
    have w1 : wrap64 ((i : Int) + 1) = ((i + 1 : Nat) : Int) := by rw [wrap_small _ (by omega) (by omega)]; omega
    have hd2 : l.drop i = l.getD i 0 :: l.drop (i + 1) := by
      rw [List.drop_eq_getElem_cons hlt]; simp [List.getD, hlt]
    simp only [PEncode.lazaretref3_code.l0]
    rw [if_pos (by omega), if_pos (by omega), rd_nat, w1]
    simp only [Option.bind_some]
    rw [if_pos (by simp; omega), ih k (i + 1) _ (by omega) (by omega) (by omega) (by simp [hacc]; omega), hd2, encBody, List.append_assoc]
    rfl
theorem code_f (l : List Int) (k : Nat) (hl : l.length ≤ 17592186043904) (hk : l.length < k) : PEncode.lazaretref3_code.f k l = some (strOfNums (encL l)) := by
  unfold PEncode.lazaretref3_code.f
  have := code_l0 l hl _ k 0 [(l.length : Int) % 256] rfl (by omega) (by omega) rfl
  simpa [encL] using this
theorem strOfNums_size (l : List Int) : (strOfNums l).size = l.length := by simp [strOfNums, ByteArray.size]
theorem strOfNums_append (a b : List Int) : strOfNums (a ++ b) = strOfNums a ++ strOfNums b := by
  apply ByteArray.ext
  simp [strOfNums]
theorem refencode_f (a b : List Int) (ha : a.length ≤ 17592186043904) (hb : b.length ≤ 17592186043904) : True := trivial
theorem wrap_nat (n : Nat) (h : n ≤ 9223372036854775807) : wrap64 (n : Int) = n := wrap_small _ (by omega) (by omega)
theorem wraps (i : Nat) (h : i ≤ 100) : wrap64 (4 * (i : Int)) = 4 * i ∧ wrap64 (1 + 4 * (i : Int)) = ((1 + 4 * i : Nat) : Int) ∧ wrap64 (((1 + 4 * i : Nat) : Int) + 4) = ((1 + 4 * i + 4 : Nat) : Int) ∧ wrap64 (((1 + 4 * i : Nat) : Int) + 1) = ((1 + 4 * i + 1 : Nat) : Int) ∧ wrap64 (((1 + 4 * i : Nat) : Int) + 2) = ((1 + 4 * i + 2 : Nat) : Int) ∧ wrap64 (((1 + 4 * i : Nat) : Int) + 3) = ((1 + 4 * i + 3 : Nat) : Int) ∧ wrap64 ((i : Int) + 1) = ((i + 1 : Nat) : Int) := by
  refine ⟨wrap_small _ (by omega) (by omega), ?_, wrap_nat (1 + 4 * i + 4) (by omega), wrap_nat (1 + 4 * i + 1) (by omega), wrap_nat (1 + 4 * i + 2) (by omega), wrap_nat (1 + 4 * i + 3) (by omega), wrap_nat (i + 1) (by omega)⟩
  rw [wrap_small _ (by omega) (by omega)]; omega
theorem read_l0 (l : List Int) (ho : Octs l) (hl : l.length ≤ 140737488355328) (n : Nat) (hn : n ≤ 16) : ∀ (d k i : Nat) (acc : List Int), n - i = d → d + 17 < k → i ≤ n → acc.length = i → setL acc = true → PDecode.lazaretref3_read.l0 k l (n : Int) acc (i : Int) = some (readLoop l (n - i) i acc) := by
  intro d
  induction d with
  | zero =>
    intro k i acc hd hk hi hacc hs
    obtain ⟨k, rfl⟩ : ∃ m, k = m + 1 := ⟨k - 1, by omega⟩
    obtain rfl : i = n := by omega
    simp only [PDecode.lazaretref3_read.l0]
    have e1 : wrap64 (4 * (i : Int)) = 4 * i := wrap_small _ (by omega) (by omega)
    rw [if_neg (by omega), e1, wrap_small _ (by omega) (by omega), Nat.sub_self, readLoop]
  | succ d ih =>
    intro k i acc hd hk hi hacc hs
    obtain ⟨k, rfl⟩ : ∃ m, k = m + 1 := ⟨k - 1, by omega⟩
    have hlt : i < n := by omega
    obtain ⟨e1, e2, e3, f1, f2, f3, w1⟩ := wraps i (by omega)
    simp only [PDecode.lazaretref3_read.l0, e1, e2, e3, f1, f2, f3, w1, rd_nat]
    clear e1 e2 e3 f1 f2 f3 w1
    rw [if_pos (by omega), show n - i = (n - i - 1) + 1 by omega, readLoop]
    by_cases hlen : l.length < 1 + 4 * i + 4
    · rw [if_pos (by omega), if_pos hlen]
    · rw [if_neg (by omega), if_neg hlen]
      rw [if_pos (by omega), if_pos (by omega), if_pos (by omega), if_pos (by omega), if_pos (by omega), if_pos (by omega), if_pos (by omega), if_pos (by omega), if_pos (by omega)]
      have o0 := ho.getD (1 + 4 * i)
      have o1 := ho.getD (1 + 4 * i + 1)
      have o2 := ho.getD (1 + 4 * i + 2)
      have o3 := ho.getD (1 + 4 * i + 3)
      rw [wrap_small (l.getD (1 + 4 * i) 0) (by omega) (by omega), wrap_small (l.getD (1 + 4 * i + 1) 0) (by omega) (by omega), wrap_small (l.getD (1 + 4 * i + 2) 0) (by omega) (by omega), wrap_small (l.getD (1 + 4 * i + 3) 0) (by omega) (by omega),
        wrap_small (l.getD (1 + 4 * i) 0 * 16777216) (by omega) (by omega), wrap_small (l.getD (1 + 4 * i + 1) 0 * 65536) (by omega) (by omega), wrap_small (l.getD (1 + 4 * i + 2) 0 * 256) (by omega) (by omega), or_four _ _ _ _ o0 o1 o2 o3]
      simp only [Option.bind_some]
      rw [show four (l.getD (1 + 4 * i) 0) (l.getD (1 + 4 * i + 1) 0) (l.getD (1 + 4 * i + 2) 0) (l.getD (1 + 4 * i + 3) 0) = fourAt l (1 + 4 * i) from rfl]
      rw [PDecode_set_f _ k (by simp; omega) (by simp; omega), setL_snoc acc _ hs (by omega)]
      simp only [Option.bind_some]
      by_cases hok : nextOk acc (fourAt l (1 + 4 * i)) = true
      · rw [if_pos hok, if_pos hok]
        have := ih k (i + 1) (acc ++ [fourAt l (1 + 4 * i)]) (by omega) (by omega) (by omega) (by simp [hacc]) (by rw [setL_snoc acc _ hs (by omega)]; exact hok)
        rw [this, show n - (i + 1) = n - i - 1 by omega]
      · rw [if_neg hok, if_neg hok]
theorem read_f (l : List Int) (ho : Octs l) (hl : l.length ≤ 140737488355328) (k : Nat) (hk : 40 ≤ k) : PDecode.lazaretref3_read.f k l = some (readL l) := by
  unfold PDecode.lazaretref3_read.f readL
  by_cases h0 : l.length = 0
  · rw [if_pos (by omega), if_pos h0]
  · have o0 := ho.getD 0
    have e0 : rd l 0 = l.getD 0 0 := rfl
    rw [if_neg (by omega), if_neg h0, if_pos (by omega), e0, wrap_small _ (by omega) (by omega)]
    by_cases h1 : l.getD 0 0 > 16
    · rw [if_pos h1, if_pos h1]
    · rw [if_neg h1, if_neg h1]
      obtain ⟨n, hn⟩ := Int.eq_ofNat_of_zero_le o0.1
      rw [hn, Int.toNat_natCast]
      exact read_l0 l ho hl n (by omega) _ k 0 [] rfl (by omega) (by omega) rfl rfl
theorem decode_f (l : List Int) (ho : Octs l) (hl : l.length ≤ 140737488355328) (k : Nat) (hk : 40 ≤ k) : PDecode.lazaretref3_Decode.f k l = some (decodeL l) := by
  unfold PDecode.lazaretref3_Decode.f decodeL
  rw [read_f l ho hl k hk]
  simp only [Option.bind_some]
  by_cases h0 : (readL l).2.2 = 0
  · obtain ⟨u, hu, hu1, hu2, hu3⟩ := readL_used ho h0
    rw [if_pos h0, if_pos h0, hu, if_pos (by omega), if_pos (by omega), Int.toNat_natCast, read_f _ (ho.drop u) (by rw [List.length_drop]; omega) k hk]
    simp only [Option.bind_some]
    by_cases h2 : (readL (l.drop u)).2.2 = 0
    · obtain ⟨u2, k2, _, _, k3⟩ := readL_used (ho.drop u) h2
      rw [if_pos h2, if_pos h2, k2, wrap_small _ (by omega) (by omega)]
    · rw [if_neg h2, if_neg h2]
  · rw [if_neg h0, if_neg h0]
end Go.Proofs.Ytgkpdkdkpmkgdaa

namespace Go.Proofs.Ytgkpdkdkpmkgdaa
open Go.RowKit Go.Proofs.YtgkpdkdkpmkgdaaW.PrintWords
set_option linter.unusedVariables false
theorem kd_of_ints {w : World} {ao : Option Addr} {n c : Nat} {l : List Int} (h : IntsAt w (.slice ao n c) l) (hl : l.length ≤ 17592186043904) : l.length = n ∧ n ≤ c ∧ Kd.C (Kd.int .i64) w ao n l := by
  rcases h with ⟨rfl, ao', c', hv, _⟩ | ⟨b, off, c', hv, h0, hc, _, hcell⟩
  · obtain ⟨rfl, rfl, rfl⟩ : ao = ao' ∧ n = 0 ∧ c = c' := by simpa using hv
    exact ⟨rfl, Nat.zero_le _, rfl, by simp, fun h => absurd h (Nat.lt_irrefl 0)⟩
  · obtain ⟨rfl, rfl, rfl⟩ : ao = some ⟨b, off, none⟩ ∧ n = l.length ∧ c = c' := by simpa using hv
    refine ⟨rfl, hc, rfl, by omega, fun _ => ⟨_, rfl, fun j p hp => ⟨[.int .i64 p], rfl, rfl, fun i u hu => ?_⟩⟩⟩
    have hj : j < l.length := (List.getElem?_eq_some_iff.1 hp).1
    rcases i with _ | i
    · simp at hu
      rw [← hu, show j * (Kd.int .i64).sz + 0 = j from Nat.mul_one j, Addr.add_mid, hcell j hj]
      have := (List.getElem?_eq_some_iff.1 hp).2
      simp [List.getD, hj, this]
    · simp at hu
theorem kd_of_bytes {w : World} {ao : Option Addr} {n c : Nat} {l : List Int} (h : BytesAt w (.slice ao n c) l) (hl : l.length ≤ 140737488355328) : l.length = n ∧ n ≤ c ∧ Kd.C (Kd.int .u8) w ao n l := by
  rcases h with ⟨rfl, ao', c', hv, _⟩ | ⟨b, off, c', hv, h0, hc, _, hcell⟩
  · obtain ⟨rfl, rfl, rfl⟩ : ao = ao' ∧ n = 0 ∧ c = c' := by simpa using hv
    exact ⟨rfl, Nat.zero_le _, rfl, by simp, fun h => absurd h (Nat.lt_irrefl 0)⟩
  · obtain ⟨rfl, rfl, rfl⟩ : ao = some ⟨b, off, none⟩ ∧ n = l.length ∧ c = c' := by simpa using hv
    refine ⟨rfl, hc, rfl, by omega, fun _ => ⟨_, rfl, fun j p hp => ⟨[.int .u8 p], rfl, rfl, fun i u hu => ?_⟩⟩⟩
    have hj : j < l.length := (List.getElem?_eq_some_iff.1 hp).1
    rcases i with _ | i
    · simp at hu
      rw [← hu, show j * (Kd.int .u8).sz + 0 = j from Nat.mul_one j, Addr.add_mid, hcell j hj]
      have := (List.getElem?_eq_some_iff.1 hp).2
      simp [List.getD, hj, this]
    · simp at hu
theorem ints_of_kd {w : World} {base : Nat} {ok : Nat → Prop} {v : Value} {l : List Int} (h : Kd.R (Kd.int .i64) 3 w base ok v l) : IntsAt w v l := by
  obtain ⟨A, c, rfl, hc, h1, h2, h3⟩ := Kd.R_reads h
  rcases Nat.eq_zero_or_pos l.length with h0 | h0
  · refine .inl ⟨List.eq_nil_of_length_eq_zero h0, A, c, by rw [h0], fun hA => ?_⟩
    obtain ⟨inner, ho⟩ := Kd.R_own h
    obtain ⟨ao, c2, hv, _, hn⟩ := owns_shape ho
    obtain ⟨rfl, rfl⟩ : A = ao ∧ c = c2 := by simpa using hv
    exact hn hA
  · obtain ⟨ad, rfl, hcell⟩ := h3 h0
    have hget : ∀ j, j < l.length → w.cell? (ad.add j) = some (.int .i64 (l.getD j 0)) := fun j hj => by
      obtain ⟨cs, _, hk, hu⟩ := hcell j l[j] (List.getElem?_eq_getElem hj)
      have hk' : cs = [.int .i64 l[j]] := hk
      have := hu 0 (.int .i64 l[j]) (by rw [hk']; rfl)
      rw [show j * (Kd.int .i64).sz + 0 = j from Nat.mul_one j] at this
      rw [this]; simp [List.getD, hj]
    have hx := hget 0 h0
    obtain ⟨b, off, spot⟩ := ad
    have hs : spot = none ∧ b < w.heap.size := by
      simp only [Addr.add, if_pos] at hx
      unfold World.cell? at hx
      split at hx
      · rename_i heq
        have := (Array.getElem?_eq_some_iff.1 heq).1
        cases spot
        · exact ⟨rfl, this⟩
        · simp at hx
      · cases hx
    obtain ⟨rfl, hb⟩ := hs
    refine .inr ⟨b, off, c, rfl, h0, hc, hb, fun j hj => ?_⟩
    have := hget j hj
    rw [Addr.add_mid] at this
    exact this
theorem refdecode_any (v : Value) (l : List Int) (w : World) (h : BytesAt w v l) (ho : Octs l) (hl : l.length ≤ 140737488355328) :
    Calls Try.prog 43 #[v] w fun e w' => ∃ x y, e = .returned (.agg #[x, y, .int .i64 (decodeL l).2.2.1, .int .i64 (decodeL l).2.2.2]) ∧ IntsAt w' x (decodeL l).1 ∧ IntsAt w' y (decodeL l).2.1 ∧ Below w.heap.size w w' := by
  obtain ⟨ao, c, rfl⟩ := h.shape
  obtain ⟨_, h2, h3⟩ := kd_of_bytes h hl
  refine (PDecode.lazaretref3_Decode.calls 40 ao c l _ _ _ _ w h3 h2 (decode_f l ho hl 40 (Nat.le_refl _))).mono ?_
  rintro e w' ⟨x, y, rfl, k1, k2, k3⟩
  exact ⟨x, y, rfl, ints_of_kd k1, ints_of_kd k2, k3⟩
theorem encode_f (a b : List Int) (ha : a.length ≤ 17592186043904) (hb : b.length ≤ 17592186043904) : PEncode.lazaretref3_Encode.f 17592186043905 a b = some (strOfNums (encBoth a b), encErr a b) := by
  unfold PEncode.lazaretref3_Encode.f encBoth encErr
  rw [may_f a b _ ha hb (by omega) (by omega)]
  simp only [Option.bind_some]
  cases hs : (setL a && setL b) with
  | false => rfl
  | true =>
    simp only [Bool.and_eq_true] at hs
    have h1 : a.length ≤ 16 := by have := hs.1; unfold setL at this; simp only [Bool.and_eq_true, decide_eq_true_eq] at this; exact this.2
    have h2 : b.length ≤ 16 := by have := hs.2; unfold setL at this; simp only [Bool.and_eq_true, decide_eq_true_eq] at this; exact this.2
    simp only [if_true]
    rw [code_f a _ ha (by omega), code_f b _ hb (by omega)]
    simp only [Option.bind_some]
    rw [if_pos (by rw [strOfNums_size, strOfNums_size, encL_length, encL_length]; omega), strOfNums_append]
theorem refencode_any (a b : Value) (la lb : List Int) (w : World) (ha : IntsAt w a la) (hb : IntsAt w b lb) (na : la.length ≤ 17592186043904) (nb : lb.length ≤ 17592186043904) :
    Calls Try.prog 41 #[.agg #[a, b]] w fun e w' => e = .returned (.tuple #[.string (strOfNums (encBoth la lb)), .int .i64 (encErr la lb)]) ∧ Below w.heap.size w w' := by
  obtain ⟨aoa, ca, rfl⟩ := ha.shape
  obtain ⟨aob, cb, rfl⟩ := hb.shape
  obtain ⟨_, k1, k2⟩ := kd_of_ints ha na
  obtain ⟨_, j1, j2⟩ := kd_of_ints hb nb
  exact PEncode.lazaretref3_Encode.calls 17592186043905 aoa ca la aob cb lb _ _ w k2 k1 j2 j1 (encode_f la lb na nb)
end Go.Proofs.Ytgkpdkdkpmkgdaa

namespace Go.Proofs.Ytgkpdkdkpmkgdaa
open Go.RowKit
set_option linter.unusedVariables false
theorem enc4_octs (n : Int) : Octs (enc4 n) := by
  intro x hx
  unfold enc4 at hx
  simp only [List.mem_cons, List.not_mem_nil, or_false] at hx
  omega
theorem encBody_octs (l : List Int) : Octs (encBody l) := by
  induction l with
  | nil => intro x hx; cases hx
  | cons n l ih => exact (enc4_octs n).append ih
theorem encL_octs (l : List Int) : Octs (encL l) := by
  intro x hx
  rcases List.mem_cons.1 hx with h | h
  · omega
  · exact encBody_octs l x h
theorem encBoth_octs (a b : List Int) : Octs (encBoth a b) := by
  unfold encBoth
  split
  · exact (encL_octs a).append (encL_octs b)
  · intro x hx; cases hx
theorem encBoth_few (a b : List Int) : (encBoth a b).length ≤ 130 := by
  unfold encBoth
  split
  · rename_i h
    simp only [Bool.and_eq_true] at h
    have h1 : a.length ≤ 16 := by have := h.1; unfold setL at this; simp only [Bool.and_eq_true, decide_eq_true_eq] at this; exact this.2
    have h2 : b.length ≤ 16 := by have := h.2; unfold setL at this; simp only [Bool.and_eq_true, decide_eq_true_eq] at this; exact this.2
    rw [List.length_append, encL_length, encL_length]; omega
  · exact Nat.zero_le _
theorem decode_both (a b l : List Int) (h : (setL a && setL b) = true) : decodeL (encBoth a b ++ l) = (a, b, ((encBoth a b).length : Int), 0) := by
  have hs := h
  simp only [Bool.and_eq_true] at h
  unfold encBoth
  rw [if_pos hs, List.append_assoc, decode_enc a b l h.1 h.2, List.length_append, encL_length, encL_length]
  simp only [Prod.mk.injEq, true_and, and_true]
  omega
theorem box_four (w : World) (a b c d : Value) (t : TypeId) : ∃ W, W = w.alloc (.cells #[a, b, c, d] t) ∧ Below w.heap.size w W ∧ ∀ W', Below W.heap.size W W' → W'.cell? ⟨w.heap.size, 0, none⟩ = some a ∧ W'.cell? ⟨w.heap.size, 1, none⟩ = some b ∧ W'.cell? ⟨w.heap.size, 2, none⟩ = some c ∧ W'.cell? ⟨w.heap.size, 3, none⟩ = some d := by
  refine ⟨_, rfl, (Below.refl _ _).alloc (Nat.le_refl _) _, fun W' h => ?_⟩
  exact ⟨box_cell (Below.refl _ _) h rfl, box_cell (Below.refl _ _) h rfl, box_cell (Below.refl _ _) h rfl, box_cell (Below.refl _ _) h rfl⟩
theorem readLoop_few (l : List Int) : ∀ (m i : Nat) (acc : List Int), acc.length + m ≤ 255 → (readLoop l m i acc).1.length ≤ 255 := by
  intro m
  induction m with
  | zero => intro i acc h; simp only [readLoop]; omega
  | succ m ih =>
    intro i acc h
    rw [readLoop]
    split
    · exact Nat.zero_le _
    · split
      · exact ih _ _ (by simp; omega)
      · exact Nat.zero_le _
theorem readL_few {l : List Int} (ho : Octs l) : (readL l).1.length ≤ 255 := by
  unfold readL
  split
  · exact Nat.zero_le _
  · split
    · exact Nat.zero_le _
    · have := ho.getD 0
      exact readLoop_few l _ 0 [] (by simp only [List.length_nil]; omega)
theorem decodeL_few {l : List Int} (ho : Octs l) : (decodeL l).1.length ≤ 255 ∧ (decodeL l).2.1.length ≤ 255 := by
  unfold decodeL
  split
  · split
    · exact ⟨readL_few ho, readL_few (ho.drop _)⟩
    · exact ⟨Nat.zero_le _, Nat.zero_le _⟩
  · exact ⟨Nat.zero_le _, Nat.zero_le _⟩
set_option maxRecDepth 100000 in
set_option maxHeartbeats 4000000 in
theorem codes_any (a b v : Value) (la lb l : List Int) (w : World) (ha : IntsAt w a la) (hb : IntsAt w b lb) (hv : BytesAt w v l) (ho : Octs l)
    (na : la.length ≤ 17592186043904) (nb : lb.length ≤ 17592186043904) (nl : l.length ≤ 140737488351232) :
    Calls Try.prog 8 #[.agg #[a, b], v] w fun e w' => e = .returned (.bool true) ∧ Below w.heap.size w w' := by
  obtain ⟨i0, hi, hz0, hz1, hz2⟩ := info_parts info5
  obtain ⟨aoa, ma, ca, rfl⟩ := ha.shape3
  obtain ⟨aob, mb, cb, rfl⟩ := hb.shape3
  obtain ⟨W, hW, hbel, hWs, hcell⟩ := box1 w (.slice aoa ma ca) (.slice aob mb cb) 26
  have hI : ∀ W', Below W.heap.size W W' → IntsAt W' (.slice aoa ma ca) la ∧ IntsAt W' (.slice aob mb cb) lb ∧ BytesAt W' v l := fun W' h =>
    have k := hbel.trans (h.mono hbel.size)
    ⟨ha.below k (Nat.le_refl _), hb.below k (Nat.le_refl _), hv.below k (Nat.le_refl _)⟩
  have c1 := fun W' h => encode_any _ _ la lb W' (hI W' h).1 (hI W' h).2.1 na nb
  have c2 := fun W' h => refencode_any _ _ la lb W' (hI W' h).1 (hI W' h).2.1 na nb
  have c3 := fun W' h => decode_any v l W' (hI W' h).2.2 ho (by omega)
  have c4 := fun W' h => refdecode_any v l W' (hI W' h).2.2 ho (by omega)
  have few := decodeL_few ho
  obtain ⟨s, hs⟩ : ∃ s, s = strOfNums (encBoth la lb) := ⟨_, rfl⟩
  obtain ⟨e1, he1⟩ : ∃ e, e = encErr la lb := ⟨_, rfl⟩
  rw [← he1] at c1 c2
  rw [← hs] at c2
  have he01 : (e1 = 0 ∧ (setL la && setL lb) = true) ∨ e1 = 1 := by
    rw [he1]; unfold encErr; split
    · rename_i h; exact .inl ⟨rfl, h⟩
    · exact .inr rfl
  obtain ⟨D, hD⟩ : ∃ D, D = decodeL l := ⟨_, rfl⟩
  simp only [← hD] at c3 c4 few
  obtain ⟨lx, ly, dn, de⟩ := D
  simp only at c3 c4 few
  have C1 := Lib.hid c1
  have C2 := Lib.hid c2
  have C3 := Lib.hid c3
  have C4 := Lib.hid c4
  have HB := Lib.hid hbel
  have HC := Lib.hid hcell
  have HI := Lib.hid hI
  have HS := Lib.hid hs
  have HO := Lib.hid ho
  have HF := Lib.hid few
  clear c1 c2 c3 c4 hbel hcell hI hs ho few hD he1 ha hb hv hWs
  go_enter Try.func8, Try.ntmps8
  go_upto_region 1 with (fail)
  rw [← hW]
  clear hW
  obtain ⟨d0, d1⟩ := HC.out W (Below.refl _ _)
  go_upto_region 4 with (first
    | (go_at_call 40; refine (C1.out W (Below.refl _ _)).mono ?_; rintro e w1 ⟨vx, rfl, ix, b1⟩; have j1 : Below W.heap.size W w1 := b1; obtain ⟨p0, p1⟩ := HC.out w1 j1)
    | (go_at_call 41; refine (C2.out w1 j1).mono ?_; rintro e w2 ⟨rfl, b2⟩; have j2 := j1.trans (b2.mono j1.size))
    | (go_at_call 42; refine (C3.out w2 j2).mono ?_; rintro e w3 ⟨x, y, rfl, i3, i3', b3⟩; have j3 := j2.trans (b3.mono j2.size); obtain ⟨aox, mx, cx, rfl⟩ := i3.shape3; obtain ⟨aoy, my, cy, rfl⟩ := i3'.shape3))
  obtain ⟨W4, hW4, b4, s4, c4⟩ := box1 w3 (.slice aox mx cx) (.slice aoy my cy) 26
  rw [← hW4]
  clear hW4
  have k4 : Below W.heap.size W W4 := j3.trans (b4.mono j3.size)
  go_upto_region 5 with (go_at_call 43; refine (C4.out W4 k4).mono ?_; rintro e w5 ⟨x2, y2, rfl, i5, i5', b5⟩; obtain ⟨aox2, mx2, cx2, rfl⟩ := i5.shape3; obtain ⟨aoy2, my2, cy2, rfl⟩ := i5'.shape3)
  obtain ⟨W6, hW6, b6, c6⟩ := box_four w5 (.slice aox2 mx2 cx2) (.slice aoy2 my2 cy2) (.int .i64 dn) (.int .i64 de) 56
  rw [← hW6]
  clear hW6
  have k45 : Below W4.heap.size W4 W6 := b5.trans (b6.mono b5.size)
  have k6 : Below W.heap.size W W6 := k4.trans (k45.mono k4.size)
  have B6 : Below w.heap.size w W6 := HB.out.trans (k6.mono HB.out.size)
  have k16 : Below w1.heap.size w1 W6 := b2.trans ((b3.trans ((b4.trans (k45.mono b4.size)).mono b3.size)).mono b2.size)
  have hx6 : ∀ W', Below W6.heap.size W6 W' → BytesAt W' vx (encBoth la lb) := fun W' h => ix.below (k16.trans (h.mono k16.size)) (Nat.le_refl _)
  have hd6 : ∀ W', Below W6.heap.size W6 W' → IntsAt W' (.slice aox mx cx) lx ∧ IntsAt W' (.slice aoy my cy) ly ∧ IntsAt W' (.slice aox2 mx2 cx2) lx ∧ IntsAt W' (.slice aoy2 my2 cy2) ly := fun W' h =>
    have q := b4.trans ((k45.trans (h.mono k45.size)).mono b4.size)
    have q2 := b6.trans (h.mono b6.size)
    ⟨i3.below q (Nat.le_refl _), i3'.below q (Nat.le_refl _), i5.below q2 (Nat.le_refl _), i5'.below q2 (Nat.le_refl _)⟩
  have cs := refsame_any _ _ _ _ lx ly lx ly W6 (hd6 W6 (Below.refl _ _)).1 (hd6 W6 (Below.refl _ _)).2.1 (hd6 W6 (Below.refl _ _)).2.2.1 (hd6 W6 (Below.refl _ _)).2.2.2 (by have := HF.out.1; omega) (by have := HF.out.2; omega) (by have := HF.out.1; omega) (by have := HF.out.2; omega)
  rw [show (decide (lx = lx) && decide (ly = ly)) = true by simp] at cs
  have CS := Lib.hid cs
  have HX6 := Lib.hid hx6
  have S4 : Hid (∀ W', Below W6.heap.size W6 W' → W'.cell? ⟨w3.heap.size, 0, none⟩ = some (.slice aox mx cx) ∧ W'.cell? ⟨w3.heap.size, 1, none⟩ = some (.slice aoy my cy)) := Lib.hid fun W' h => c4 W' (k45.trans (h.mono k45.size))
  have S6 := Lib.hid c6
  have SL : Hid (∀ W', Below W6.heap.size W6 W' → _) := Lib.hid fun W' h => HC.out W' (k6.trans (h.mono k6.size))
  have SI : Hid (∀ W', Below W6.heap.size W6 W' → _) := Lib.hid fun W' h => HI.out W' (k6.trans (h.mono k6.size))
  obtain ⟨f0, f1⟩ := S4.out W6 (Below.refl _ _)
  obtain ⟨f2, f3, f4, f5⟩ := S6.out W6 (Below.refl _ _)
  clear cs hx6 hd6 c4 c6 i3 i3' i5 i5' ix k16 k45 k4 k6 b1 b2 b3 b4 b5 b6 j1 j2 j3 d0 d1 p0 p1 C1 C2 C3 C4 HC HI HB s4
  go_cut [61] (fun s61 wx => s61 = .bool false ∧ Below W6.heap.size W6 wx)
  case first =>
    go_wp2_with (first
      | ((with_reducible show wpList _ _ _ (⟨some 35, _, _, _, _, _⟩ :: _) _ _); go_must (refine wpList_convert_bytes rfl 47 9 5 _ rfl _ (encBoth la lb) und47 und5 und9 rfl (HX6.out W6 (Below.refl _ _)) ?_; simp only [Act.put, List.setIfInBounds_toArray, List.set_cons_zero, List.set_cons_succ]; rw [← HS.out]))
      | (go_at_call 30; refine CS.out.mono ?_; rintro e w7 ⟨rfl, b7⟩; obtain ⟨g2, g3, g4, g5⟩ := S6.out w7 b7))
    go_meet
    exact ⟨rfl, b7⟩
  case rest =>
    obtain ⟨rfl, hb⟩ := hcut
    clear f0 f1 f2 f3 f4 f5 CS HF S4 S6
    rcases he01 with ⟨rfl, hok⟩ | rfl
    · have hdec := decode_both la lb l hok
      obtain ⟨m, hm⟩ : ∃ m, m = (encBoth la lb).length := ⟨_, rfl⟩
      have hmf := encBoth_few la lb
      have hsz : (encBoth la lb ++ l).length ≤ 140737488355328 := by rw [List.length_append]; omega
      rw [← hm] at hmf
      have hx := HX6.out wc hb
      obtain ⟨aox3, cx3, hvx⟩ := hx.shape
      rw [← hm] at hvx
      subst hvx
      have hown0 : (wc.alloc (.cells #[] 5)).ownsRow wc.heap.size 5 1 (.slice (some ⟨wc.heap.size, 0, none⟩) 0 0) 0 (octets []) := World.ownsRow_made wc #[] 0 (by simp) (by decide) rfl
      have hb0 : Below wc.heap.size wc (wc.alloc (.cells #[] 5)) := (Below.refl _ _).alloc (Nat.le_refl _) _
      have HX' := Lib.hid hx
      have HV' := Lib.hid (SI.out wc hb).2.2
      have Hown0 := Lib.hid hown0
      have Hm := Lib.hid hm
      have Hdec := Lib.hid hdec
      have Hsz := Lib.hid hsz
      clear hdec hm hx hown0 hsz
      obtain ⟨q0, q1⟩ := SL.out wc hb
      go_upto_region 10 with (first
        | ((with_reducible show wpList _ _ _ (⟨some 68, _, _, _, _, _⟩ :: _) _ _); go_must (refine wpList_append_bytes rfl _ _ 47 rfl wc.heap.size 5 i0 (.int .u8 0) und47 hi hz0 hz1 hz2 rfl _ 0 [] (encBoth la lb) rfl Hown0.out _ rfl (HX'.out.alloc _) (by rw [← Hm.out]; omega) (by simp) ?_; intro v4 w4 hown4 hg4 hn4; simp only [Act.put, List.setIfInBounds_toArray, List.set_cons_zero, List.set_cons_succ]; have hb4 := hb0.grown hg4 hb0.size (fun q hq => (Hown0.out.lt q hq).1); have Hown4 := Lib.hid hown4; clear hown4 hn4))
        | ((with_reducible show wpList _ _ _ (⟨some 70, _, _, _, _, _⟩ :: _) _ _); go_must (refine wpList_append_bytes rfl _ _ 47 rfl wc.heap.size 5 i0 (.int .u8 0) und47 hi hz0 hz1 hz2 rfl _ _ _ l rfl Hown4.out _ rfl (HV'.out.below hb4 (Nat.le_refl _)) (by rw [← Hm.out]; omega) hb4.size ?_; intro v5 w5' hown5 hg5 hn5; simp only [Act.put, List.setIfInBounds_toArray, List.set_cons_zero, List.set_cons_succ]; have hb5 := hb4.grown hg5 hb4.size (fun q hq => (Hown4.out.lt q hq).1); have hat : BytesAt w5' v5 (encBoth la lb ++ l) := BytesAt.of_owns hown5; clear hown5 hn5))
        | (go_at_call 42; have hdc := decode_any v5 (encBoth la lb ++ l) w5' hat ((encBoth_octs la lb).append HO.out) Hsz.out; rw [Hdec.out, ← Hm.out] at hdc; refine hdc.mono ?_; clear hdc; rintro e w8 ⟨x3, y3, rfl, i8, i8', b8⟩; obtain ⟨ao8, m8, c8, rfl⟩ := i8.shape3; obtain ⟨ao9, m9, c9, rfl⟩ := i8'.shape3))
      obtain ⟨W9, hW9, b9, s9, c10⟩ := box1 w8 (.slice ao8 m8 c8) (.slice ao9 m9 c9) 26
      rw [← hW9]
      clear hW9
      have k8 : Below wc.heap.size wc W9 := hb5.trans ((b8.trans (b9.mono b8.size)).mono hb5.size)
      have k9 : Below W6.heap.size W6 W9 := hb.trans (k8.mono hb.size)
      have cs := refsame_any _ _ _ _ la lb la lb W9 (i8.below b9 (Nat.le_refl _)) (i8'.below b9 (Nat.le_refl _)) (SI.out W9 k9).1 (SI.out W9 k9).2.1 na nb na nb
      rw [show (decide (la = la) && decide (lb = lb)) = true by simp] at cs
      have CS2 := Lib.hid cs
      obtain ⟨r0, r1⟩ := SL.out W9 k9
      obtain ⟨r2, r3⟩ := c10 W9 (Below.refl _ _)
      clear cs c10 i8 i8' b8 b9 hb5 hb4 hg4 hg5 hb0 q0 q1 hat s9
      go_wp2_with (first
        | (go_at_call 30; refine CS2.out.mono ?_; rintro e w10 ⟨rfl, b10⟩; have k10 := k9.trans (b10.mono k9.size))
        | (go_at_call 11; refine (awake3_any w10).mono ?_; rintro e w11 ⟨rfl, b11⟩; have k11 := k10.trans (b11.mono k10.size)))
      go_ret
      exact ⟨rfl, B6.trans (k11.mono B6.size)⟩
    · go_wp2_with (go_at_call 11; refine (awake3_any wc).mono ?_; rintro e w11 ⟨rfl, b11⟩; have k11 := hb.trans (b11.mono hb.size))
      go_ret
      exact ⟨rfl, B6.trans (k11.mono B6.size)⟩
end Go.Proofs.Ytgkpdkdkpmkgdaa
