/- Labels as bytes: plain laws. -/
import Derived.Test.YtgkpdkdkpmkgdaaAsksL
namespace Go.Proofs.Ytgkpdkdkpmkgdaa
set_option linter.unusedVariables false
/-- Four bytes as a number. -/
def four (a b c d : Int) : Int := ((a * 256 + b) * 256 + c) * 256 + d
def fourAt (l : List Int) (p : Nat) : Int := four (l.getD p 0) (l.getD (p + 1) 0) (l.getD (p + 2) 0) (l.getD (p + 3) 0)
/-- A tag may stand behind those that are read. -/
def nextOk (acc : List Int) (t : Int) : Bool := decide (1 ≤ t) && decide (t ≤ 2147483647) && (decide (acc.length = 0) || decide (acc.getD (acc.length - 1) 0 < t))
def readLoop (l : List Int) : Nat → Nat → List Int → List Int × Int × Int
  | 0, i, acc => (acc, 1 + 4 * (i : Int), 0)
  | m + 1, i, acc =>
    if l.length < 1 + 4 * i + 4 then ([], 0, 4)
    else if nextOk acc (fourAt l (1 + 4 * i)) then readLoop l m (i + 1) (acc ++ [fourAt l (1 + 4 * i)]) else ([], 0, 3)
def readL (l : List Int) : List Int × Int × Int :=
  if l.length = 0 then ([], 0, 4) else if l.getD 0 0 > 16 then ([], 0, 3) else readLoop l (l.getD 0 0).toNat 0 []
def decodeL (l : List Int) : List Int × List Int × Int × Int :=
  if (readL l).2.2 = 0 then
    (if (readL (l.drop (readL l).2.1.toNat)).2.2 = 0 then ((readL l).1, (readL (l.drop (readL l).2.1.toNat)).1, (readL l).2.1 + (readL (l.drop (readL l).2.1.toNat)).2.1, 0)
      else ([], [], 0, (readL (l.drop (readL l).2.1.toNat)).2.2))
  else ([], [], 0, (readL l).2.2)
def enc4 (n : Int) : List Int := [n / 16777216 % 256, n / 65536 % 256, n / 256 % 256, n % 256]
def encBody : List Int → List Int
  | [] => []
  | n :: l => enc4 n ++ encBody l
def encL (l : List Int) : List Int := (l.length : Int) % 256 :: encBody l
theorem enc4_length (n : Int) : (enc4 n).length = 4 := rfl
theorem encBody_length (l : List Int) : (encBody l).length = 4 * l.length := by
  induction l with
  | nil => rfl
  | cons n l ih => simp only [encBody, List.length_append, enc4_length, ih, List.length_cons]; omega
theorem encL_length (l : List Int) : (encL l).length = 1 + 4 * l.length := by
  simp only [encL, List.length_cons, encBody_length]; omega
theorem encBody_append (a b : List Int) : encBody (a ++ b) = encBody a ++ encBody b := by
  induction a with
  | nil => rfl
  | cons n a ih => simp only [List.cons_append, encBody, ih, List.append_assoc]
theorem four_enc (n : Int) (h0 : 0 ≤ n) (h1 : n < 4294967296) : four (n / 16777216 % 256) (n / 65536 % 256) (n / 256 % 256) (n % 256) = n := by
  unfold four; omega
theorem getD_append_right' (a b : List Int) (p : Nat) : (a ++ b).getD (a.length + p) 0 = b.getD p 0 := by
  simp only [List.getD]
  rw [List.getElem?_append_right (by omega), Nat.add_sub_cancel_left]
theorem four_at (pre rest : List Int) (n : Int) (h0 : 0 ≤ n) (h1 : n < 4294967296) : fourAt (pre ++ (enc4 n ++ rest)) pre.length = n := by
  unfold fourAt
  have e : ∀ p, p < 4 → (pre ++ (enc4 n ++ rest)).getD (pre.length + p) 0 = (enc4 n).getD p 0 := by
    intro p hp
    rw [getD_append_right']
    simp only [List.getD]
    rw [List.getElem?_append_left (by rw [enc4_length]; exact hp)]
  rw [show pre.length = pre.length + 0 from rfl, e 0 (by omega), e 1 (by omega), e 2 (by omega), e 3 (by omega)]
  exact four_enc n h0 h1
theorem risesTo_take (l r : List Int) : ∀ k, k ≤ l.length → risesTo (l ++ r) k = risesTo l k := by
  intro k
  induction k with
  | zero => intro _; rfl
  | succ k ih =>
    intro hk
    have e : ∀ j, j < l.length → (l ++ r).getD j 0 = l.getD j 0 := fun j hj => by
      simp only [List.getD]; rw [List.getElem?_append_left hj]
    rw [risesTo, risesTo, ih (by omega), e k (by omega), e (k - 1) (by omega)]
theorem setL_snoc (acc : List Int) (t : Int) (h : setL acc = true) (hl : acc.length < 16) : setL (acc ++ [t]) = nextOk acc t := by
  have h1 : risesTo acc acc.length = true := by unfold setL at h; simp only [Bool.and_eq_true] at h; exact h.1
  have e1 : (acc ++ [t]).getD acc.length 0 = t := by simp [List.getD]
  have e3 : risesTo (acc ++ [t]) acc.length = true := by rw [risesTo_take acc [t] _ (Nat.le_refl _), h1]
  have hlen : (acc ++ [t]).length = acc.length + 1 := by simp
  unfold setL
  rw [hlen, risesTo, e3, e1]
  unfold nextOk
  rw [decide_eq_true (by omega : acc.length + 1 ≤ 16)]
  rcases Nat.eq_zero_or_pos acc.length with h0 | h0
  · simp [h0]
  · have e2 : (acc ++ [t]).getD (acc.length - 1) 0 = acc.getD (acc.length - 1) 0 := by
      simp only [List.getD]; rw [List.getElem?_append_left (by omega)]
    rw [e2]; simp
theorem readLoop_enc (suf rest : List Int) : ∀ (l : List Int) (i : Nat) (acc pre : List Int), pre.length = 1 + 4 * i → acc.length = i → setL (acc ++ l) = true → readLoop (pre ++ (encBody l ++ rest)) l.length i acc = (acc ++ l, 1 + 4 * ((i + l.length : Nat) : Int), 0) := by
  intro l
  induction l with
  | nil => intro i acc pre hp ha hs; simp [readLoop]
  | cons n l ih =>
    intro i acc pre hp ha hs
    have hs1 : setL (acc ++ [n]) = true ∧ setL acc = true ∧ acc.length < 16 := by
      have hfull : setL (acc ++ [n] ++ l) = true := by rw [List.append_assoc]; exact hs
      unfold setL at hfull ⊢
      simp only [Bool.and_eq_true, decide_eq_true_eq] at hfull ⊢
      have hA : ∀ k, k ≤ (acc ++ [n] ++ l).length → risesTo (acc ++ [n] ++ l) k = true := by
        intro k hk
        cases hc : risesTo (acc ++ [n] ++ l) k with
        | true => rfl
        | false => have := risesTo_mono _ hc _ hk; rw [hfull.1] at this; cases this
      have hl1 : (acc ++ [n] ++ l).length = acc.length + 1 + l.length := by simp; omega
      refine ⟨⟨?_, ?_⟩, ⟨?_, ?_⟩, ?_⟩
      · rw [← risesTo_take (acc ++ [n]) l _ (Nat.le_refl _)]; exact hA _ (by simp)
      · have := hfull.2; simp at this ⊢; omega
      · have e : acc ++ [n] ++ l = acc ++ ([n] ++ l) := List.append_assoc _ _ _
        rw [← risesTo_take acc ([n] ++ l) _ (Nat.le_refl _), ← e]; exact hA _ (by simp)
      · have := hfull.2; simp at this; omega
      · have := hfull.2; simp at this; omega
    obtain ⟨k1, k2, k3⟩ := hs1
    have hn : nextOk acc n = true := by rw [← setL_snoc acc n k2 k3]; exact k1
    have hb : 1 ≤ n ∧ n ≤ 2147483647 := by
      unfold nextOk at hn
      simp only [Bool.and_eq_true, decide_eq_true_eq] at hn
      exact hn.1
    rw [List.length_cons, readLoop]
    have hlen : ¬ (pre ++ (encBody (n :: l) ++ rest)).length < 1 + 4 * i + 4 := by
      simp only [List.length_append, encBody_length, hp, List.length_cons]; omega
    rw [if_neg hlen]
    have hf : fourAt (pre ++ (encBody (n :: l) ++ rest)) (1 + 4 * i) = n := by
      rw [← hp]
      have := four_at pre (encBody l ++ rest) n (by omega) (by omega)
      simpa [encBody, List.append_assoc] using this
    rw [hf, if_pos hn]
    have := ih (i + 1) (acc ++ [n]) (pre ++ enc4 n) (by rw [List.length_append, enc4_length, hp]; omega) (by simp [ha]) (by rw [List.append_assoc]; exact hs)
    simp only [encBody, List.append_assoc] at this ⊢
    rw [this]
    simp only [List.singleton_append, Prod.mk.injEq, true_and, and_true]
    rw [show i + 1 + l.length = i + (l.length + 1) from by omega]
theorem read_enc (l rest : List Int) (hs : setL l = true) : readL (encL l ++ rest) = (l, 1 + 4 * (l.length : Int), 0) := by
  have hl : l.length ≤ 16 := by unfold setL at hs; simp only [Bool.and_eq_true, decide_eq_true_eq] at hs; exact hs.2
  have e0 : (encL l ++ rest).getD 0 0 = (l.length : Int) := by
    simp only [encL, List.cons_append, List.getD, List.getElem?_cons_zero, Option.getD_some]; omega
  unfold readL
  rw [if_neg (by simp [encL]), e0, if_neg (by omega), Int.toNat_natCast]
  have := readLoop_enc [] rest l 0 [] [(l.length : Int) % 256] rfl rfl (by simpa using hs)
  simp only [List.singleton_append, List.nil_append, Nat.zero_add] at this
  exact this
theorem decode_enc (a b rest : List Int) (ha : setL a = true) (hb : setL b = true) : decodeL (encL a ++ (encL b ++ rest)) = (a, b, 2 + 4 * (a.length : Int) + 4 * (b.length : Int), 0) := by
  have h1 := read_enc a (encL b ++ rest) ha
  have h2 := read_enc b rest hb
  have hd : (encL a ++ (encL b ++ rest)).drop (1 + 4 * (a.length : Int)).toNat = encL b ++ rest := by
    rw [show (1 + 4 * (a.length : Int)).toNat = (encL a).length by rw [encL_length]; omega, List.drop_left]
  unfold decodeL
  rw [h1]
  simp only [if_true, hd, h2]
  simp only [Prod.mk.injEq, true_and, and_true]
  omega
end Go.Proofs.Ytgkpdkdkpmkgdaa
