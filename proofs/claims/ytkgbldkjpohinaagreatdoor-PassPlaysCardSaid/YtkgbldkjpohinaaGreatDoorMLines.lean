/- Numerals are read as they were written; lines are parted as they were joined: plain. fields: a line's fields, exactly. (*Book).line: a user's own line is read. strings.Lines, exactly: the lines of a text, each with its end. -/
import Derived.Test.YtkgbldkjpohinaaGreatDoorMBook
import Derived.Lib.AtoiAllCases
import Derived.Test.YtkgbldkjpohinaaGreatDoorFields
import Derived.Test.YtkgbldkjpohinaaGreatDoorLine
import Derived.Test.YtkgbldkjpohinaaGreatDoorLines
namespace Go.Proofs.YtkgbldkjpohinaaGreatDoor
open Go.RowKit Go.Maps Go.Sort
set_option linter.unusedVariables false
theorem parse_snoc : ∀ (l : List UInt8) (acc u : Nat) (c : UInt8), Lib.parseUint10 acc l = .ok u → 48 ≤ c.toNat → c.toNat ≤ 57 → u < 1844674407370955161 → Lib.parseUint10 acc (l ++ [c]) = .ok (u * 10 + (c.toNat - 48))
  | [], acc, u, c, h, h1, h2, h3 => by
    have e : acc = u := by simpa [Lib.parseUint10] using h
    subst e
    simp only [List.nil_append, Lib.parseUint10]
    rw [if_pos ⟨h1, h2⟩, if_neg (by omega), if_neg (by omega)]
  | d :: r, acc, u, c, h, h1, h2, h3 => by
    rw [List.cons_append]
    simp only [Lib.parseUint10] at h ⊢
    split at h
    · rename_i hd
      rw [if_pos hd]
      split at h
      · cases h
      · rename_i ha
        rw [if_neg ha]
        split at h
        · cases h
        · rename_i hb
          rw [if_neg hb]
          exact parse_snoc r _ u c h h1 h2 h3
    · cases h
theorem digit_nat {d : Nat} (h : d < 10) : (UInt8.ofNat (48 + d)).toNat = 48 + d := by
  rw [UInt8.toNat_ofNat']
  omega
theorem dec_ne (m : Nat) : Lib.decDigits m ≠ [] := by
  intro h
  have := Lib.nDigits_pos m
  rw [← Lib.decDigits_length, h] at this
  simp at this
theorem dec_digit (m : Nat) : ∀ c ∈ Lib.decDigits m, 48 ≤ c.toNat ∧ c.toNat ≤ 57 := by
  induction m using Nat.strongRecOn with
  | _ m ih =>
    intro c hc
    by_cases h : m < 10
    · rw [Lib.decDigits_one h, List.mem_singleton] at hc
      rw [hc, digit_nat h]; omega
    · rw [dec_big h, List.mem_append, List.mem_singleton] at hc
      rcases hc with hc | hc
      · exact ih (m / 10) (by omega) c hc
      · rw [hc, digit_nat (by omega)]; omega
theorem dec_parse (m : Nat) (hm : m ≤ 2147483647) : Lib.parseUint10 0 (Lib.decDigits m) = .ok m := by
  induction m using Nat.strongRecOn with
  | _ m ih =>
    by_cases h : m < 10
    · rw [Lib.decDigits_one h]
      simp only [Lib.parseUint10]
      rw [digit_nat h, if_pos (by omega), if_neg (by omega), if_neg (by omega)]
      congr 1
      omega
    · rw [dec_big h, parse_snoc _ 0 (m / 10) _ (ih (m / 10) (by omega) (by omega)) (by rw [digit_nat (by omega)]; omega) (by rw [digit_nat (by omega)]; omega) (by omega), digit_nat (by omega)]
      congr 1
      omega
theorem atoi_itoa (m : Nat) (hm : m ≤ 2147483647) : Lib.atoiAll (Lib.itoa m) = .ok (m : Int) := by
  rw [Lib.itoa_nonneg]
  have hp := dec_parse m hm
  have hd := dec_digit m
  have hn := dec_ne m
  cases hl : Lib.decDigits m with
  | nil => exact absurd hl hn
  | cons c r =>
    rw [hl] at hp hd
    have hc := hd c (by simp)
    unfold Lib.atoiAll
    simp only
    rw [if_neg (by omega)]
    unfold Lib.parseMag
    rw [if_neg (by simp), hp]
    simp only
    rw [if_neg (by omega), if_neg (by omega), if_neg (by omega)]
/-- Pieces, each closed by one byte that none of them has. -/
def closedBy (c : UInt8) (l : List (List UInt8)) : List UInt8 := l.flatMap fun p => p ++ [c]
theorem sep_unique (c : UInt8) : ∀ (p q x y : List UInt8), c ∉ p → c ∉ q → p ++ c :: x = q ++ c :: y → p = q ∧ x = y
  | [], [], x, y, _, _, h => ⟨rfl, by simpa using h⟩
  | [], d :: q, x, y, _, hq, h => by
    have : c = d := by simpa using (List.cons.inj (by simpa using h)).1
    exact absurd (by rw [this]; simp) hq
  | d :: p, [], x, y, hp, _, h => by
    have : d = c := by simpa using (List.cons.inj (by simpa using h)).1
    exact absurd (by rw [this]; simp) hp
  | d :: p, e :: q, x, y, hp, hq, h => by
    rw [List.cons_append, List.cons_append] at h
    obtain ⟨h1, h2⟩ := List.cons.inj h
    obtain ⟨h3, h4⟩ := sep_unique c p q x y (fun e => hp (by simp [e])) (fun e => hq (by simp [e])) h2
    exact ⟨by rw [h1, h3], h4⟩
theorem split_unique (c : UInt8) : ∀ (l m : List (List UInt8)) (a b : List UInt8), (∀ p ∈ l, c ∉ p) → (∀ p ∈ m, c ∉ p) → c ∉ a → c ∉ b → closedBy c l ++ a = closedBy c m ++ b → l = m ∧ a = b
  | [], [], a, b, _, _, _, _, h => ⟨rfl, by simpa [closedBy] using h⟩
  | [], q :: m, a, b, _, _, ha, _, h => by
    exfalso
    apply ha
    have : a = closedBy c (q :: m) ++ b := by simpa [closedBy] using h
    rw [this]
    simp [closedBy]
  | p :: l, [], a, b, _, _, _, hb, h => by
    exfalso
    apply hb
    have : closedBy c (p :: l) ++ a = b := by simpa [closedBy] using h
    rw [← this]
    simp [closedBy]
  | p :: l, q :: m, a, b, hl, hm, ha, hb, h => by
    have e : ∀ (p : List UInt8) (l : List (List UInt8)) (a : List UInt8), closedBy c (p :: l) ++ a = p ++ c :: (closedBy c l ++ a) := fun p l a => by simp [closedBy]
    rw [e, e] at h
    obtain ⟨h1, h2⟩ := sep_unique c p q _ _ (hl p (by simp)) (hm q (by simp)) h
    obtain ⟨h3, h4⟩ := split_unique c l m a b (fun x hx => hl x (by simp [hx])) (fun x hx => hm x (by simp [hx])) ha hb h2
    exact ⟨by rw [h1, h3], h4⟩
end Go.Proofs.YtkgbldkjpohinaaGreatDoor
namespace Go.Proofs.YtkgbldkjpohinaaGreatDoor
open Go.RowKit Go.Maps Go.Sort
set_option linter.unusedVariables false
structure Half (s : ByteArray) (l : List ByteArray) (fr pos : Nat) : Prop where
  take : s.data.toList.take fr = closedBy 58 (l.map fun b => b.data.toList)
  no : ∀ p ∈ l, (58 : UInt8) ∉ p.data.toList
  free : ∀ j, fr ≤ j → j < pos → s.data.toList[j]? ≠ some 58
  len : l.length ≤ fr
theorem half_zero (s : ByteArray) : Half s [] 0 0 := ⟨rfl, fun p hp => (by cases hp), fun j h1 h2 => (by omega), Nat.le_refl _⟩
theorem list_at (s : ByteArray) {k : Nat} (h : k < s.size) : s.data.toList[k]? = some (s[k]'h) := by
  rw [Array.getElem?_toList]
  exact Array.getElem?_eq_getElem h
theorem extract_list (s : ByteArray) (a b : Nat) : (s.extract a b).data.toList = (s.data.toList.drop a).take (b - a) := by
  simp [ByteArray.data_extract, Array.toList_extract, List.extract_eq_take_drop]
theorem mem_extract {s : ByteArray} {a b : Nat} {c : UInt8} (h : c ∈ (s.extract a b).data.toList) : ∃ j, a ≤ j ∧ j < b ∧ s.data.toList[j]? = some c := by
  rw [extract_list] at h
  obtain ⟨j, hj⟩ := List.getElem?_of_mem h
  have hjb : j < b - a := by
    rw [List.getElem?_take] at hj
    split at hj
    · assumption
    · cases hj
  rw [List.getElem?_take_of_lt hjb, List.getElem?_drop] at hj
  exact ⟨a + j, by omega, by omega, hj⟩
theorem Half.other {s : ByteArray} {l : List ByteArray} {fr pos : Nat} (h : Half s l fr pos) (hlt : pos < s.size) (hc : ¬ (s[pos]'hlt).toNat = 58) : Half s l fr (pos + 1) :=
  ⟨h.take, h.no, fun j h1 h2 => by
    by_cases e : j = pos
    · subst e
      rw [list_at s hlt]
      intro e
      have e2 : s[j]'hlt = 58 := Option.some.inj e
      exact hc (by rw [e2]; rfl)
    · exact h.free j h1 (by omega), h.len⟩
theorem Half.colon {s : ByteArray} {l : List ByteArray} {fr pos : Nat} (h : Half s l fr pos) (hlt : pos < s.size) (hc : (s[pos]'hlt).toNat = 58) (hfp : fr ≤ pos) : Half s (l ++ [s.extract fr pos]) (pos + 1) (pos + 1) := by
  refine ⟨?_, ?_, fun j h1 h2 => by omega, by have := h.len; simp; omega⟩
  · have e1 : s.data.toList.take (pos + 1) = s.data.toList.take fr ++ ((s.data.toList.drop fr).take (pos - fr) ++ [58]) := by
      have e2 : s.data.toList.take pos = s.data.toList.take fr ++ (s.data.toList.drop fr).take (pos - fr) := by
        have := List.take_add (l := s.data.toList) (i := fr) (j := pos - fr)
        rw [show fr + (pos - fr) = pos by omega] at this
        exact this
      have hl : pos < s.data.toList.length := by simpa using hlt
      have e3 : s.data.toList[pos] = 58 := by
        have := list_at s hlt
        rw [List.getElem?_eq_getElem hl] at this
        have e4 := Option.some.inj this
        rw [e4]
        exact UInt8.toNat_inj.1 (by rw [hc]; rfl)
      rw [List.take_succ_eq_append_getElem hl, e2, e3, List.append_assoc]
    rw [e1, h.take, List.map_append, List.map_singleton, extract_list]
    unfold closedBy
    rw [List.flatMap_append]
    simp
  · intro p hp
    rcases List.mem_append.1 hp with hp | hp
    · exact h.no p hp
    · rw [List.mem_singleton.1 hp]
      intro hm
      obtain ⟨j, h1, h2, h3⟩ := mem_extract hm
      exact h.free j h1 h2 h3
theorem Half.last {s : ByteArray} {l : List ByteArray} {fr pos : Nat} (h : Half s l fr pos) (hlt : ¬ pos < s.size) (hps : fr ≤ s.size) :
    ∃ (m : List (List UInt8)) (a : List UInt8), (l ++ [s.extract fr s.size]).map (fun b => b.data.toList) = m ++ [a] ∧ (∀ p ∈ m, (58 : UInt8) ∉ p) ∧ (58 : UInt8) ∉ a ∧ s.data.toList = closedBy 58 m ++ a := by
  refine ⟨l.map fun b => b.data.toList, (s.extract fr s.size).data.toList, by simp, ?_, ?_, ?_⟩
  · intro p hp
    obtain ⟨b, hb, rfl⟩ := List.mem_map.1 hp
    exact h.no b hb
  · intro hm
    obtain ⟨j, h1, h2, h3⟩ := mem_extract hm
    exact h.free j h1 (by omega) h3
  · rw [← h.take, extract_list, List.take_of_length_le (l := s.data.toList.drop fr) (by simp), List.take_append_drop]
def FieldsX (s : ByteArray) (w : World) (e : Ending) (w' : World) : Prop := ∃ (v : Value) (l : List ByteArray), e = .returned v ∧ OwnS w' w.heap.size v l ∧ (∃ (m : List (List UInt8)) (a : List UInt8), l.map (fun b => b.data.toList) = m ++ [a] ∧ (∀ p ∈ m, (58 : UInt8) ∉ p) ∧ (58 : UInt8) ∉ a ∧ s.data.toList = closedBy 58 m ++ a) ∧ Below w.heap.size w w'
set_option maxRecDepth 100000 in
set_option maxHeartbeats 4000000 in
theorem fields_good (s : ByteArray) (w : World) (hs : s.size ≤ 1048576) (hasc : ∀ (i : Nat) (h : i < s.size), (s[i]'h).toNat < 128) : Calls Tryz.prog 43 #[.string s] w (FieldsX s w) := by
  have HASC := Lib.hid hasc
  clear hasc
  obtain ⟨W0, hW0⟩ : ∃ W0, W0 = w.iter s 0 := ⟨_, rfl⟩
  have hal : Below w.heap.size w W0 := by rw [hW0]; exact (Below.refl _ _).alloc (Nat.le_refl _) _
  have hit : W0.heap[w.heap.size]? = some (.stringIter s 0) := by rw [hW0]; exact heap_alloc_new w _
  go_enter Tryz.func43, Tryz.ntmps43
  go_wp2
  rw [← hW0]
  clear hW0
  go_loopw [3, 4, 5, 6] (fun vo vf _ _ wr => ∃ (l : List ByteArray) (fr pos : Nat), vf = .int .i64 fr ∧ fr ≤ pos ∧ fr ≤ s.size ∧ Half s l fr pos ∧ OwnS wr w.heap.size vo l ∧ wr.heap[w.heap.size]? = some (.stringIter s pos) ∧ Below w.heap.size w wr) (fun _ _ _ _ wr => match wr.heap[w.heap.size]? with | some (.stringIter _ p) => s.size - p | _ => 0)
  case atStart => exact ⟨[], 0, 0, rfl, by omega, by omega, half_zero s, ⟨rfl, .inl ⟨rfl, rfl⟩⟩, hit, hal⟩
  case round =>
    clear hal hit
    obtain ⟨l, fr, pos, rfl, hfp, hps, hsz, ho, hit, hb⟩ := hrel
    have HO := Lib.hid ho
    have HIT := Lib.hid hit
    have HB := Lib.hid hb
    have HSZ := Lib.hid hsz
    have hll : l.length < 8796093022208 := by have := hsz.len; omega
    obtain ⟨ao, cap, hv⟩ := ho.shape
    obtain ⟨ln, hln⟩ : ∃ n, n = l.length := ⟨_, rfl⟩
    rw [← hln] at hv
    have HLN := Lib.hid hln
    clear ho hb hsz hln
    subst hv
    by_cases hlt : pos < s.size
    · have keep : ∀ q, Below w.heap.size w (wr.iterAt w.heap.size s q) ∧ OwnS (wr.iterAt w.heap.size s q) w.heap.size (.slice ao ln cap) l ∧ (wr.iterAt w.heap.size s q).heap[w.heap.size]? = some (.stringIter s q) := fun q =>
        ⟨Lib.below_iterAt HB.out (Nat.le_refl _) s q, HO.out.keep (fun k cs e => (Lib.iterAt_other wr w.heap.size k s q (by rintro rfl; rw [HIT.out] at e; cases e)).trans e), Lib.iterAt_heap wr w.heap.size s pos q HIT.out⟩
      have KP := Lib.hid keep
      clear keep
      by_cases h58 : (s[pos]'hlt).toNat = 58
      · have hn := fun ty => Lib.run_next_ascii_at (P := Tryz.prog) wr w.heap.size s pos ty hit hlt (by omega)
        have H58 := Lib.hid h58
        rw [h58] at hn
        clear hit h58
        go_upto_region 7 with (fail)
        obtain ⟨kb, ko, ki⟩ := KP.out (pos + 1)
        obtain ⟨W1, hW1⟩ : ∃ W1, W1 = wr.iterAt w.heap.size s (pos + 1) := ⟨_, rfl⟩
        rw [← hW1] at kb ko ki
        rw [← hW1]
        have KB := Lib.hid kb
        have KO := Lib.hid ko
        have KI := Lib.hid ki
        clear hW1 kb ko ki hn KP
        have hfr : (fr : Int) ≤ pos := by omega
        have hps2 : (pos : Int) ≤ s.size := by omega
        have hex : (s.extract fr pos).size = pos - fr := by rw [ByteArray.size_extract]; omega
        obtain ⟨U, hU⟩ : ∃ U, U = s.extract fr pos := ⟨_, rfl⟩
        rw [← hU] at hex
        have HU := Lib.hid hU
        have hA : Hid (Below W1.heap.size W1 (W1.alloc (.cells #[Value.string U] 9))) := (Below.refl _ _).alloc (Nat.le_refl _) _
        have OA : Hid (OwnS (W1.alloc (.cells #[Value.string U] 9)) w.heap.size (.slice ao ln cap) l) := KO.out.keep (fun k cs e => (hA.out.block k (Array.getElem?_eq_some_iff.1 e).1).trans e)
        have IA := Lib.hid ((hA.out.block _ (Array.getElem?_eq_some_iff.1 KI.out).1).trans KI.out)
        have BA := Lib.hid (KB.out.trans (hA.out.mono KB.out.size))
        rw [hU] at hA OA IA BA
        clear hU
        go_wp2_with ((with_reducible show wpList _ _ _ (⟨some 21, _, _, _, _, _⟩ :: _) _ _); go_must (refine wpList_append_str rfl _ _ rfl w.heap.size (.slice ao ln cap) l rfl OA.out W1.heap.size 1 (s.extract fr pos) rfl (by rw [cell_of_row _ _ 0 _ 9 (0, 0) (heap_alloc_new _ _)]; rfl) hll (by have := KB.out.size; simp; omega) ?_; intro v6 w6 o6 g6; simp only [Act.put, List.setIfInBounds_toArray, List.set_cons_zero, List.set_cons_succ]))
        have i6 := (g6.block w.heap.size (Array.getElem?_eq_some_iff.1 IA.out).1 (own_ne_iter OA.out IA.out)).trans IA.out
        have b6 := BA.out.grown g6 (by have := BA.out.size; omega) (own_ge OA.out)
        go_roundw
        case rel => exact ⟨l ++ [s.extract fr pos], pos + 1, pos + 1, by push_cast; rfl, by omega, by omega, HSZ.out.colon hlt H58.out hfp, o6, i6, b6⟩
        case measure => rw [i6, HIT.out]; simp only; omega
      · have H58 := Lib.hid h58
        by_cases hasc : (s[pos]'hlt).toNat < 128
        · have hn := fun ty => Lib.run_next_ascii_at (P := Tryz.prog) wr w.heap.size s pos ty hit hlt hasc
          obtain ⟨c, hc⟩ : ∃ c : Nat, c = (s[pos]'hlt).toNat := ⟨_, rfl⟩
          rw [← hc] at h58 hasc
          simp only [← hc] at hn
          have d1 : ((c : Int) == 58) = false := by simp; omega
          obtain ⟨kb, ko, ki⟩ := KP.out (pos + 1)
          clear hc hit
          go_wp2
          go_roundw
          case rel => exact ⟨l, fr, pos + 1, rfl, by omega, by omega, HSZ.out.other hlt H58.out, ko, ki, kb⟩
          case measure => rw [ki, HIT.out]; simp only; omega
        · exact absurd (HASC.out pos hlt) hasc
    · have hn := fun ty => Lib.run_next_end_at (P := Tryz.prog) wr w.heap.size s pos ty hit hlt
      have hex : (s.extract fr s.size).size = s.size - fr := by rw [ByteArray.size_extract]; omega
      have HEX := Lib.hid hex
      have hA : Hid (Below wr.heap.size wr (wr.alloc (.cells #[Value.string (s.extract fr s.size)] 9))) := (Below.refl _ _).alloc (Nat.le_refl _) _
      have OA : Hid (OwnS (wr.alloc (.cells #[Value.string (s.extract fr s.size)] 9)) w.heap.size (.slice ao ln cap) l) := HO.out.keep (fun k cs e => (hA.out.block k (Array.getElem?_eq_some_iff.1 e).1).trans e)
      have BA := Lib.hid (HB.out.trans (hA.out.mono HB.out.size))
      have hfr : (fr : Int) ≤ s.size := by omega
      clear hit hex
      go_wp2_with ((with_reducible show wpList _ _ _ (⟨some 29, _, _, _, _, _⟩ :: _) _ _); go_must (refine wpList_append_str rfl _ _ rfl w.heap.size (.slice ao ln cap) l rfl OA.out wr.heap.size 1 (s.extract fr s.size) rfl (by rw [cell_of_row _ _ 0 _ 9 (0, 0) (heap_alloc_new _ _)]; rfl) hll (by have := HB.out.size; simp; omega) ?_; intro v6 w6 o6 g6; simp only [Act.put, List.setIfInBounds_toArray, List.set_cons_zero, List.set_cons_succ]))
      go_ret
      exact ⟨v6, l ++ [s.extract fr s.size], rfl, o6, HSZ.out.last hlt hps, BA.out.grown g6 (by have := BA.out.size; omega) (own_ge OA.out)⟩
end Go.Proofs.YtkgbldkjpohinaaGreatDoor
namespace Go.Proofs.YtkgbldkjpohinaaGreatDoor
open Go.RowKit Go.Maps Go.Sort LatT
set_option linter.unusedVariables false
/-- Bytes that are no colon, no line's end, and below 128. -/
def Plain (l : List UInt8) : Prop := ∀ c ∈ l, c.toNat < 128 ∧ c.toNat ≠ 58 ∧ c.toNat ≠ 10
theorem plain_letters {b : ByteArray} {d : Bool} (h : LettersP b d) : Plain b.data.toList := by
  intro c hc
  obtain ⟨j, hj⟩ := List.getElem?_of_mem hc
  have hl : j < b.size := by simpa using (List.getElem?_eq_some_iff.1 hj).1
  rw [list_at b hl] at hj
  have := h.1 j hl
  rw [Option.some.inj hj] at this
  unfold okB at this
  omega
theorem plain_itoa (m : Nat) : Plain (Lib.itoa m) := by
  intro c hc
  rw [Lib.itoa_nonneg] at hc
  have := dec_digit m c hc
  omega
theorem digv_some {c x : Int} (h : digv c = some x) : (48 ≤ c ∧ c ≤ 57) ∨ (97 ≤ c ∧ c ≤ 102) := by
  unfold digv at h
  split at h
  · left; assumption
  · split at h
    · right; assumption
    · cases h
theorem unhexL_bytes : ∀ (l o : List Int), unhexL l = some o → ∀ c ∈ l, (48 ≤ c ∧ c ≤ 57) ∨ (97 ≤ c ∧ c ≤ 102)
  | [], _, _, c, hc => by cases hc
  | [_], _, h, _, _ => by cases h
  | a :: b :: r, o, h, c, hc => by
    simp only [unhexL] at h
    cases ha : digv a with
    | none => rw [ha] at h; cases h
    | some x =>
      cases hb : digv b with
      | none => rw [ha, hb] at h; cases h
      | some y =>
        rw [ha, hb] at h
        obtain ⟨t, ht, _⟩ := Option.map_eq_some_iff.1 h
        rcases List.mem_cons.1 hc with rfl | hc
        · exact digv_some ha
        · rcases List.mem_cons.1 hc with rfl | hc
          · exact digv_some hb
          · exact unhexL_bytes r t ht c hc
theorem plain_hex {b : ByteArray} {o : List Int} (h : unhexL (bytesOf b) = some o) : Plain b.data.toList := by
  intro c hc
  have : (c.toNat : Int) ∈ bytesOf b := by
    unfold bytesOf
    exact List.mem_map.2 ⟨c, hc, rfl⟩
  have := unhexL_bytes _ _ h _ this
  omega
theorem plain_no {l : List UInt8} (h : Plain l) : (58 : UInt8) ∉ l := fun hm => (h 58 hm).2.1 rfl
set_option maxRecDepth 100000 in
set_option maxHeartbeats 2000000 in
theorem number_good (n : Nat) (hn : n ≤ 2147483647) (w : World) (hv : LibV w) : Calls Tryz.prog 44 #[.string ⟨(Lib.itoa n).toArray⟩] w fun e w' => e = .returned (.tuple #[.int .i64 n, .bool true]) ∧ Below w.heap.size w w' := by
  have hsz : (⟨(Lib.itoa n).toArray⟩ : ByteArray).size ≤ 21 := itoa_len (by omega) (by omega)
  have C : Hid (Calls Tryz.prog 56 #[.string ⟨(Lib.itoa n).toArray⟩] w fun e w' => e = .returned (.tuple #[.int .i64 n, .nilIface]) ∧ Below w.heap.size w w') := by
    refine (Tryz.strconv_Atoi_ok ⟨(Lib.itoa n).toArray⟩ (by omega) (n : Int) (atoi_itoa n hn) w).mono ?_
    rintro e w' ⟨rfl, hw⟩
    refine ⟨rfl, ?_⟩
    rcases hw with rfl | ⟨t, rfl⟩
    · exact Below.refl _ _
    · exact Joins.below_bytesWorld _ _ _ _ (Nat.le_refl _)
  have HV := Lib.hid hv
  have IT := Lib.hid (fun w1 (b1 : Below w.heap.size w w1) => itoaF_any (n : Int) w1 (by omega) (by omega) (HV.out.below b1 (Nat.le_refl _)).pow)
  obtain ⟨TT, hTT⟩ : ∃ x : ByteArray, x = ⟨(Lib.itoa n).toArray⟩ := ⟨_, rfl⟩
  rw [← hTT] at IT C ⊢
  clear hTT hv hsz
  go_enter Tryz.func44, Tryz.ntmps44
  go_wp2_with (first
    | (go_at_call 56; refine C.out.mono ?_; rintro e w1 ⟨rfl, b1⟩; have B1 := Lib.hid b1; clear b1)
    | (go_at_call 32; refine (IT.out _ B1.out).mono ?_; rintro e w2 ⟨rfl, b2⟩; have B2 := Lib.hid b2; clear b2))
  go_ret2
  exact ⟨by simp, B1.out.trans (B2.out.mono B1.out.size)⟩
def lineS (a0 a1 : ByteArray) (n2 : Int) (a3 : ByteArray) (n4 : Int) : ByteArray := a0 ++ ⟨#[58]⟩ ++ a1 ++ ⟨#[58]⟩ ++ ⟨(Lib.itoa n2).toArray⟩ ++ ⟨#[58]⟩ ++ a3 ++ ⟨#[58]⟩ ++ ⟨(Lib.itoa n4).toArray⟩
theorem lineS_list (a0 a1 : ByteArray) (n2 : Int) (a3 : ByteArray) (n4 : Int) : (lineS a0 a1 n2 a3 n4).data.toList = closedBy 58 [a0.data.toList, a1.data.toList, Lib.itoa n2, a3.data.toList] ++ Lib.itoa n4 := by
  unfold lineS closedBy
  simp
theorem bytes_eq {a b : ByteArray} (h : a.data.toList = b.data.toList) : a = b := by
  cases a; cases b; simpa [Array.toList_inj] using h
set_option maxRecDepth 100000 in
set_option maxHeartbeats 8000000 in
theorem line_good {w0 w : World} {b mu mf : Nat} {tries wait : Int} {nu nf : Nat} {Du Df : DataW Unit} (h : BookSt w0 w b mu mf tries wait nu nf Du Df) (a0 a1 a3 : ByteArray) (m2 m4 : Nat) (o : List Int) (hv : LibV w0) (hnu : nu < 100000000) (hmay : mayB a0 a1 m2 m4 = true) (hhex : unhexL (bytesOf a3) = some o) (ho32 : o.length = 32) (hnew : Maps.has Du (.string a0.data.toList) = false) :
    Calls Tryz.prog 27 #[.pointer (some ⟨b, 0, none⟩), .string (lineS a0 a1 m2 a3 m4)] w fun e w' => e = .returned .nilIface ∧ w.grownBy w' (some mu) ∧ BookSt w0 w' b mu mf tries wait (nu + 1) nf (Du.put (.string a0.data.toList) (entD a1 m2 a3 m4)) Df := by
  obtain ⟨s, hs⟩ : ∃ s, s = lineS a0 a1 m2 a3 m4 := ⟨_, rfl⟩
  rw [← hs]
  have hm8 := mayB_true hmay
  obtain ⟨z1, z2, z3, z4, z5, z6, z7, z8⟩ := hm8
  have hl1 : LettersP a0 false ∧ LettersP a1 true := by
    unfold mayB at hmay
    simp only [Bool.and_eq_true, decide_eq_true_eq] at hmay
    exact ⟨hmay.1.1.1.1.1, hmay.1.1.1.1.2⟩
  have p0 := plain_letters hl1.1
  have p1 := plain_letters hl1.2
  have p2 := plain_itoa m2
  have p3 := plain_hex hhex
  have p4 := plain_itoa m4
  have hsl : s.data.toList = closedBy 58 [a0.data.toList, a1.data.toList, Lib.itoa m2, a3.data.toList] ++ Lib.itoa m4 := by rw [hs]; exact lineS_list _ _ _ _ _
  have h64 : a3.size = 64 := by
    have := unhexL_len _ _ hhex
    rw [bytesOf_length] at this
    omega
  have i1 := itoa_len (n := (m2 : Int)) (by omega) (by omega)
  have i2 := itoa_len (n := (m4 : Int)) (by omega) (by omega)
  have hss : s.size ≤ 1048576 := by
    rw [hs]
    unfold lineS
    simp only [ByteArray.size_append]
    have e : (⟨#[58]⟩ : ByteArray).size = 1 := rfl
    rw [e]
    omega
  have hasc : ∀ (i : Nat) (h : i < s.size), (s[i]'h).toNat < 128 := fun i hi => by
    have hm : s[i]'hi ∈ s.data.toList := List.mem_of_getElem? (list_at s hi)
    rw [hsl] at hm
    simp only [closedBy, List.flatMap_cons, List.flatMap_nil, List.append_nil, List.mem_append, List.mem_singleton] at hm
    rcases hm with ((hm | hm) | (hm | hm) | (hm | hm) | (hm | hm)) | hm
    all_goals first | exact (p0 _ hm).1 | exact (p1 _ hm).1 | exact (p2 _ hm).1 | exact (p3 _ hm).1 | exact (p4 _ hm).1 | (rw [hm]; decide)
  have hfive : ∀ l : List ByteArray, (∃ (m : List (List UInt8)) (a : List UInt8), l.map (fun b => b.data.toList) = m ++ [a] ∧ (∀ p ∈ m, (58 : UInt8) ∉ p) ∧ (58 : UInt8) ∉ a ∧ s.data.toList = closedBy 58 m ++ a) → l = [a0, a1, ⟨(Lib.itoa m2).toArray⟩, a3, ⟨(Lib.itoa m4).toArray⟩] := by
    rintro l ⟨m, a, e1, e2, e3, e4⟩
    rw [hsl] at e4
    obtain ⟨rfl, rfl⟩ := split_unique 58 _ _ _ _ e2 (by
      intro p hp
      simp only [List.mem_cons, List.not_mem_nil, or_false] at hp
      rcases hp with rfl | rfl | rfl | rfl
      · exact plain_no p0
      · exact plain_no p1
      · exact plain_no p2
      · exact plain_no p3) e3 (plain_no p4) e4.symm
    have hinj : ∀ (x y : List ByteArray), x.map (fun b => b.data.toList) = y.map (fun b => b.data.toList) → x = y := by
      intro x
      induction x with
      | nil => intro y h; cases y with
        | nil => rfl
        | cons => simp at h
      | cons u r ih => intro y h; cases y with
        | nil => simp at h
        | cons v q =>
          simp only [List.map_cons, List.cons.injEq] at h
          rw [bytes_eq h.1, ih q h.2]
    exact hinj _ _ (by rw [e1]; simp)
  have HFIVE := Lib.hid hfive
  have HST := Lib.hid h
  have HV := Lib.hid (hv.below h.below (Nat.le_refl _))
  have CF := Lib.hid (fields_good s w hss hasc)
  have HMAY := Lib.hid hmay
  have HHEX := Lib.hid hhex
  have HO32 := Lib.hid ho32
  have HNEW := Lib.hid hnew
  clear h hv hs hsl hasc hfive p0 p1 p2 p3 p4 hmay hhex ho32 hnew hl1
  go_enter Tryz.func27, Tryz.ntmps27
  go_upto_region 2 with (go_at_call 43; refine CF.out.mono ?_; rintro e w1 ⟨v, l, rfl, ho, hm, b1⟩; obtain ⟨ao, cap, hvv⟩ := ho.shape; subst hvv)
  have HB1 := Lib.hid b1
  have hl := HFIVE.out l hm
  clear hm
  subst hl
  obtain ⟨g, cap', cur, hv, hBg, hrow, hcap, hcur⟩ := ho.row (by simp)
  obtain ⟨rfl, rfl⟩ : ao = some ⟨g, 0, none⟩ ∧ cap = cap' := by simpa using hv
  obtain ⟨a2, ha2⟩ : ∃ x : ByteArray, x = ⟨(Lib.itoa m2).toArray⟩ := ⟨_, rfl⟩
  obtain ⟨a4, ha4⟩ : ∃ x : ByteArray, x = ⟨(Lib.itoa m4).toArray⟩ := ⟨_, rfl⟩
  rw [← ha2, ← ha4] at ho hcur hcap ⊢
  have N2 : Hid (∀ w', LibV w' → Calls Tryz.prog 44 #[.string a2] w' fun e w'' => e = .returned (.tuple #[.int .i64 m2, .bool true]) ∧ Below w'.heap.size w' w'') := fun w' k => by rw [ha2]; exact number_good m2 (by omega) w' k
  have N4 : Hid (∀ w', LibV w' → Calls Tryz.prog 44 #[.string a4] w' fun e w'' => e = .returned (.tuple #[.int .i64 m4, .bool true]) ∧ Below w'.heap.size w' w'') := fun w' k => by rw [ha4]; exact number_good m4 (by omega) w' k
  have hglt := (Array.getElem?_eq_some_iff.1 hrow).1
  have HX : Hid (∀ W', Below w1.heap.size w1 W' → W'.cell? ⟨g, 0, none⟩ = some (.string a0) ∧ W'.cell? ⟨g, 1, none⟩ = some (.string a1) ∧ W'.cell? ⟨g, 2, none⟩ = some (.string a2) ∧ W'.cell? ⟨g, 3, none⟩ = some (.string a3) ∧ W'.cell? ⟨g, 4, none⟩ = some (.string a4)) := fun W' k => by
    have h1 := (k.block g hglt).trans hrow
    exact ⟨by rw [cell_of_row W' _ 0 _ 9 (0, 0) h1, hcur 0 (by simp)]; rfl, by rw [cell_of_row W' _ 1 _ 9 (0, 0) h1, hcur 1 (by simp)]; rfl, by rw [cell_of_row W' _ 2 _ 9 (0, 0) h1, hcur 2 (by simp)]; rfl, by rw [cell_of_row W' _ 3 _ 9 (0, 0) h1, hcur 3 (by simp)]; rfl, by rw [cell_of_row W' _ 4 _ 9 (0, 0) h1, hcur 4 (by simp)]; rfl⟩
  obtain ⟨_, _, x2, _, _⟩ := HX.out w1 (Below.refl _ _)
  have V1 := Lib.hid (HV.out.below b1 (Nat.le_refl _))
  clear ha2 ha4 hrow hcur hcap ho hv b1 hglt CF HFIVE
  have m0 : a0.size ≤ maxLen := by unfold maxLen; omega
  have m1 : a1.size ≤ maxLen := by unfold maxLen; omega
  go_upto_region 7 with (first
    | (go_at_call_of 44 (Value.string a2); refine (N2.out _ V1.out).mono ?_; rintro e w2 ⟨rfl, b2⟩; have B2 := Lib.hid b2; have y2 := HX.out w2 b2; have x4 := y2.2.2.2.2; clear y2; have V2 := Lib.hid (V1.out.below b2 (Nat.le_refl _)); clear b2)
    | (go_at_call_of 44 (Value.string a4); refine (N4.out _ V2.out).mono ?_; rintro e w3 ⟨rfl, b3⟩; have B3 := Lib.hid (B2.out.trans (b3.mono B2.out.size)); have y3 := HX.out w3 B3.out; have x3 := y3.2.2.2.1; clear y3 b3)
    | (go_at_call 45; refine (unhex_any a3 _ (by omega)).mono ?_; rintro e w4 ⟨v4, rfl, hB4, b4⟩; have B4 := Lib.hid (B3.out.trans (b4.mono B3.out.size)); obtain ⟨ao4, c4, hv4⟩ := hB4.shape; subst hv4; have y4 := HX.out w4 B4.out; have x0 := y4.1; have x1 := y4.2.1; have x3' := y4.2.2.2.1; clear y4 b4))
  have h4 := HST.out.keep (HB1.out.trans (B4.out.mono HB1.out.size))
  have H4 := Lib.hid h4
  have c2 : w4.cell? ⟨b, 2, none⟩ = some (.map (some mu)) := by rw [cell_of_row w4 b 2 _ 47 (0, 0) h4.at_]; rfl
  have look : ∀ W', Below w4.heap.size w4 W' → (Instr.lookup 44 (.map (some mu)) (.string a0) true).run Tryz.prog W' = .ok (.tuple #[lookV Du a0, .bool (Maps.has Du (.string a0.data.toList))]) W' := fun W' k => look_user (h4.keep k).hu a0 m0
  obtain ⟨LV, hLV⟩ : ∃ v, v = lookV Du a0 := ⟨_, rfl⟩
  obtain ⟨p, tt, q, i, hLV2⟩ := lookV_shape Du a0
  rw [← hLV] at look hLV2
  rw [hLV2] at look
  have lookA := look w4.drew ⟨rfl, rfl, rfl, Nat.le_refl _, fun _ _ => rfl⟩
  have lookB := look ((w4.alloc (.cells #[.string ⟨#[]⟩, .int .i64 0, .string ⟨#[]⟩, .int .i64 0] 53)).drew) (((Below.refl _ _).alloc (Nat.le_refl _) _).drew)
  have kA : Below w4.heap.size w4 (w4.alloc (.cells #[.string ⟨#[]⟩, .int .i64 0, .string ⟨#[]⟩, .int .i64 0] 53)) := (Below.refl _ _).alloc (Nat.le_refl _) _
  have c2a : (w4.alloc (.cells #[.string ⟨#[]⟩, .int .i64 0, .string ⟨#[]⟩, .int .i64 0] 53)).cell? ⟨b, 2, none⟩ = some (.map (some mu)) := (kA.cell (p := ⟨b, 2, none⟩) (Array.getElem?_eq_some_iff.1 h4.at_).1).trans c2
  have x0a := (HX.out _ (B4.out.trans (kA.mono B4.out.size))).1
  obtain ⟨has, hhas⟩ : ∃ x, x = Maps.has Du (.string a0.data.toList) := ⟨_, rfl⟩
  rw [← hhas] at lookA lookB
  have HHAS := Lib.hid hhas
  clear look hLV hLV2 h4 hhas V1 V2 kA
  go_cut [12, 13] (fun v12 v13 wx => v13 = .bool has ∧ Below w4.heap.size w4 wx)
  case first =>
    have hend : Below w4.heap.size w4 (w4.alloc (.cells #[.string p, .int .i64 tt, .string q, .int .i64 i] 53)).drew := ((Below.refl _ _).alloc (Nat.le_refl _) _).drew
    have HEND := Lib.hid hend
    clear hend
    go_region
    all_goals
      go_wp2
      go_meet
      case rel => exact ⟨rfl, HEND.out⟩
  case rest =>
    obtain ⟨rfl, b5⟩ := hcut
    have BC := Lib.hid (HB1.out.trans ((B4.out.trans (b5.mono B4.out.size)).mono HB1.out.size))
    have BX := Lib.hid (B4.out.trans (b5.mono B4.out.size))
    have M3 : Hid (∀ w', Below wc.heap.size wc w' → Calls Tryz.prog 16 #[.string a0, .string a1, .int .i64 m2, .int .i64 m4] w' fun e w'' => e = .returned (.bool true) ∧ Below w'.heap.size w' w'') := fun w' _ => by
      have := may_any a0 a1 m2 m4 w' m0 m1
      rwa [HMAY.out] at this
    obtain ⟨hx, hhx⟩ : ∃ x, x = (unhexL (bytesOf a3)).isSome := ⟨_, rfl⟩
    obtain ⟨LN, hLN⟩ : ∃ x, x = ((unhexL (bytesOf a3)).getD []).length := ⟨_, rfl⟩
    rw [← hhx, ← hLN]
    have hx1 : hx = true := by rw [hhx, HHEX.out]; rfl
    have hln : LN = 32 := by rw [hLN, HHEX.out]; exact HO32.out
    have hhas0 : has = false := HHAS.out.trans HNEW.out
    clear hhx hLN
    subst hx1
    subst hln
    subst hhas0
    have x0 : ∀ i : Lat wc, i.w.cell? ⟨g, 0, none⟩ = some (.string a0) := fun i => (HX.out _ (BX.out.trans (i.h.mono BX.out.size))).1
    have x1 : ∀ i : Lat wc, i.w.cell? ⟨g, 1, none⟩ = some (.string a1) := fun i => (HX.out _ (BX.out.trans (i.h.mono BX.out.size))).2.1
    clear b5 x3' hB4 c2a x0a lookA lookB c2
    go_upto_region 8 with (fail)
    refine wp_region_lat (W := wc) (by kernel_rfl) (by kernel_rfl) (Below.refl _ _) ?_
    iterate 30 (go_big_quiet_step ((first | (with_reducible exact Lat.call (M3.out _ (Lat.h _))))))
    refine wpQuiet_nil ?_
    rintro _ ⟨iw, rfl⟩
    go_upto_region 10 with (fail)
    obtain ⟨W6, hW6⟩ : ∃ W6, W6 = iw.w := ⟨_, rfl⟩
    have bw6 : Below wc.heap.size wc W6 := by rw [hW6]; exact iw.h
    rw [← hW6]
    have B6 := Lib.hid (BC.out.trans (bw6.mono BC.out.size))
    have X6 := HX.out W6 (BX.out.trans (bw6.mono BX.out.size))
    have h6 := HST.out.keep B6.out
    have c2 : W6.cell? ⟨b, 2, none⟩ = some (.map (some mu)) := by rw [cell_of_row W6 b 2 _ 47 (0, 0) h6.at_]; rfl
    have y0 := X6.1
    have y1 := X6.2.1
    have y3 := X6.2.2.2.1
    clear hW6 X6 x0 x1 M3 bw6
    go_wp2
    refine wp_region_quiet_sink 16 (by kernel_rfl) (by kernel_rfl) (by kernel_rfl) ?_
    simp only [List.take_succ_cons, List.take_zero, List.drop_succ_cons, List.drop_zero]
    repeat (go_big_quiet_step (fail))
    refine wpQuiet_nil ?_
    rintro _ ⟨nq, rfl⟩
    have h7 := h6.keep (⟨rfl, rfl, rfl, Nat.le_refl _, fun _ _ => rfl⟩ : Below W6.heap.size W6 (W6.drewN nq))
    obtain ⟨w9, hrun, hown9, hg9⟩ := h7.hu.update law9 und59 (by unfold maxLen; omega) (WideMaps.keyOf_string_mk und9 m0) (show readU (.agg #[.string a1, .int .i64 m2, .string a3, .int .i64 m4]) = some (entD a1 m2 a3 m4, []) from rfl)
    go_wp2
    go_ret
    exact ⟨rfl, (grown_below (⟨B6.out.os, B6.out.tape, B6.out.output, B6.out.size, B6.out.block⟩ : Below w.heap.size w (W6.drewN nq)) (some mu)).trans hg9, h7.grownU hown9 hg9⟩
end Go.Proofs.YtkgbldkjpohinaaGreatDoor
namespace Go.Proofs.YtkgbldkjpohinaaGreatDoor
open Go.RowKit Go.Shelf
attribute [local go_sem] Oper.semAt_some
set_option linter.unusedVariables false
def catB (l : List ByteArray) : List UInt8 := l.flatMap fun b => b.data.toList
/-- The first line of what is left. -/
def FirstLine (r x : List UInt8) : Prop := (∃ y z, (10 : UInt8) ∉ y ∧ r = y ++ 10 :: z ∧ x = y ++ [10]) ∨ ((10 : UInt8) ∉ r ∧ x = r)
def Piece (s : ByteArray) (pre : List ByteArray) (x : ByteArray) : Prop := ∃ r : List UInt8, s.data.toList = catB pre ++ r ∧ r ≠ [] ∧ FirstLine r x.data.toList
theorem nil_of_size {r : ByteArray} (h : r.size = 0) : r.data.toList = [] := by
  apply List.length_eq_zero_iff.1
  simpa using h
theorem index_split {l : List UInt8} {k : Nat} (h : Lib.indexByte l 10 = k) : (10 : UInt8) ∉ l.take k ∧ l = l.take k ++ 10 :: l.drop (k + 1) ∧ l.take (k + 1) = l.take k ++ [10] := by
  obtain ⟨h1, h2⟩ := Lib.indexByte_some h
  obtain ⟨hl, he⟩ := List.getElem?_eq_some_iff.1 h1
  refine ⟨fun hm => ?_, ?_, ?_⟩
  · obtain ⟨j, hj⟩ := List.getElem?_of_mem hm
    have hjk : j < k := by
      rw [List.getElem?_take] at hj
      split at hj
      · assumption
      · cases hj
    rw [List.getElem?_take_of_lt hjk] at hj
    exact h2 j hjk hj
  · conv => lhs; rw [← List.take_append_drop k l, List.drop_eq_getElem_cons hl, he]
  · rw [List.take_succ_eq_append_getElem hl, he]
theorem piece_cut {s r : ByteArray} {pre : List ByteArray} {k : Nat} (hs : s.data.toList = catB pre ++ r.data.toList) (h : Lib.indexByte r.data.toList 10 = k) : Piece s pre (r.extract 0 (k + 1)) := by
  obtain ⟨h1, h2, h3⟩ := index_split h
  refine ⟨r.data.toList, hs, fun e => by rw [e] at h2; simp at h2, .inl ⟨_, _, h1, h2, ?_⟩⟩
  rw [extract_list, List.drop_zero, Nat.sub_zero, h3]
theorem piece_all {s r : ByteArray} {pre : List ByteArray} (hs : s.data.toList = catB pre ++ r.data.toList) (hz : 0 < r.size) (h : Lib.indexByte r.data.toList 10 = -1) : Piece s pre r := by
  refine ⟨r.data.toList, hs, fun e => ?_, .inr ⟨fun hm => ?_, rfl⟩⟩
  · have : r.size = 0 := by
      have := congrArg List.length e
      simpa using this
    omega
  · obtain ⟨j, hj⟩ := List.getElem?_of_mem hm
    exact Lib.indexByte_none h j hj
theorem cat_cut {s r : ByteArray} {pre : List ByteArray} {k : Nat} (hs : s.data.toList = catB pre ++ r.data.toList) (hk : k < r.size) : s.data.toList = catB (pre ++ [r.extract 0 (k + 1)]) ++ (r.extract (k + 1) r.size).data.toList := by
  rw [hs]
  unfold catB
  rw [List.flatMap_append, List.append_assoc]
  congr 1
  simp only [List.flatMap_cons, List.flatMap_nil, List.append_nil]
  rw [extract_list, extract_list, List.drop_zero, Nat.sub_zero, List.take_of_length_le (l := r.data.toList.drop (k + 1)) (by simp), List.take_append_drop]
section
variable {F : Fence} {n : Nat} {P : Program}
/-- An iterator of a text's lines, one behind the other. -/
def SeqLines (F : Fence) (n : Nat) (P : Program) (g : Nat) (lb : Array Value) (c : Nat) (s : ByteArray) : Prop :=
  ∀ (l : Nat) (J Jx : List ByteArray → World → Prop) (W : World), W.heap[c]? = some (.cells #[.string s] 9 (0, 0)) → AbB c J → AbB c Jx →
    (∀ pre x W1, J pre W1 → Piece s pre x → YieldAt F (n - 1) P l #[.string x] W1 fun e W' =>
      (e = .returned (.bool true) ∧ J (pre ++ [x]) W' ∧ W'.heap[c]? = W1.heap[c]?) ∨ (e = .returned (.bool false) ∧ Jx (pre ++ [x]) W')) →
    J [] W → CallsIn F n P g (#[.func (.yield l) #[] #[]] ++ lb) W fun e W' => (∃ v, e = .returned v) ∧ ((∃ xs, s.data.toList = catB xs ∧ J xs W') ∨ ∃ pre, Jx pre W')
theorem rangeLines {g : Operand} {p : Tmp} {assign body : Code} {Q : Exit → Act → World → Prop} {a : Act} {w : World} (hro : F.round = none) (h1 : 1 ≤ n) {gf : Nat} {lb : Array Value}
    (hg : a.eval g = .func (.func gf) #[] lb) (hFg : F.fn gf) (eg : ∀ args w, (callFunc gf args).run P w = .ok (.enter gf args) w) {c : Nat} {s : ByteArray} (hseq : SeqLines F (n - 1) P gf lb c s) (hc : w.heap[c]? = some (.cells #[.string s] 9 (0, 0)))
    (I : List ByteArray → World → Prop) (Ix : World → Prop) (hI : ∀ xs A B r, I xs A → A.grownBy B (some r) → (r = c ∨ w.heap.size ≤ r ∧ r < w.heap.size + 2) → I xs B) (hIx : ∀ A B r, Ix A → A.grownBy B (some r) → (r = c ∨ w.heap.size ≤ r ∧ r < w.heap.size + 2) → Ix B)
    (h0 : I [] w) (a₁ : ByteArray → Act)
    (hassign : ∀ (l : Nat) (x : ByteArray) (W : World) (K : Act → World → Prop), K (a₁ x) W → assign.wpIn (F.inRound l) (n - 1 - 1) P (Exit.then K (fun _ _ _ => False)) { tmps := ((#[p] : Array Tmp).zip #[Value.string x]).foldl (fun t (p, v) => t.setIfInBounds p v) a.tmps, defers := [] } W)
    (hbody : ∀ (l : Nat) (pre : List ByteArray) (x : ByteArray) (W : World), w.heap.size + 2 ≤ W.heap.size → I pre W → Piece s pre x → body.wpIn (F.inRound l) (n - 1 - 1) P (boxPost w.heap.size c I Ix (pre ++ [x]) W) (a₁ x) W)
    (hdone : ∀ (xs : List ByteArray) (W : World), s.data.toList = catB xs → I xs W → W.heap[w.heap.size]? = some (.deferred (some [])) → Q .normal { a with defers := { target := .collected w.heap.size, args := #[] } :: a.defers } W)
    (hstop : ∀ (W : World), Ix W → W.heap[w.heap.size]? = some (.deferred (some [])) → Code.ret.wpIn F n P Q { a with defers := { target := .collected w.heap.size, args := #[] } :: a.defers } W) :
    (Code.rangeFunc g #[p] assign body).wpIn F n P Q a w := by
  have hcl : c < w.heap.size := (Array.getElem?_eq_some_iff.1 hc).1
  refine wpIn_rangeFunc ?_
  intro fn hfn
  rw [hro]
  obtain ⟨rec, hrec⟩ : ∃ rec : LoopState → Option Code → Loop, rec = fun st pe => { state := st, pending := pe, fn, tmps := a.tmps, params := #[p], assign, body, defers := w.heap.size } := ⟨_, rfl⟩
  obtain ⟨W1, hW1⟩ : ∃ W1, W1 = (w.alloc (.deferred (some []))).alloc (.loop (rec .ready none)) := ⟨_, rfl⟩
  have hs1 : W1.heap.size = w.heap.size + 2 := by rw [hW1]; simp
  have hL1 : W1.heap[w.heap.size + 1]? = some (.loop (rec .ready none)) := by
    have := World.alloc_heap_new (w.alloc (.deferred (some []))) (.loop (rec .ready none))
    rw [World.size_alloc] at this
    rw [hW1]; exact this
  have hK1 : W1.heap[w.heap.size]? = some (.deferred (some [])) := by
    rw [hW1]; exact (Below.heap_alloc _ _ _ (by simp)).trans (World.alloc_heap_new w _)
  have hc1 : W1.heap[c]? = some (.cells #[.string s] 9 (0, 0)) := by
    rw [hW1, Below.heap_alloc _ _ _ (by simp; omega), Below.heap_alloc _ _ _ hcl]; exact hc
  have hI1 : I [] W1 := by
    rw [hW1]
    exact hI _ _ _ c (hI _ _ _ c h0 (World.grownBy_alloc w _ _) (.inl rfl)) (World.grownBy_alloc _ _ _) (.inl rfl)
  refine ⟨w.heap.size + 1, [{ target := .collected w.heap.size, args := #[] }], W1, { target := .fn (.func gf) lb, args := #[.func (.yield (w.heap.size + 1)) #[] #[]] }, W1, gf, #[.func (.yield (w.heap.size + 1)) #[] #[]] ++ lb, W1, ?_, ?_, ?_, ?_, fun _ => h1, ?_⟩
  · rw [hW1, hrec]; exact run_enterLoop_outer _ _ _ _ _
  · simp only [resolve, hg]
    simp [go_sem]
  · intro f' hf'; simp [Target.leads] at hf'; subst hf'; exact hFg
  · simp [invoke, go_sem, eg]
  · refine (hseq (w.heap.size + 1)
      (fun pre W => I pre W ∧ W.heap[w.heap.size + 1]? = some (.loop (rec .ready none)) ∧ W.heap[w.heap.size]? = some (.deferred (some [])))
      (fun _ W => Ix W ∧ W.heap[w.heap.size + 1]? = some (.loop (rec .done (some .ret))) ∧ W.heap[w.heap.size]? = some (.deferred (some [])))
      W1 hc1
      (fun xs A B hs gr => ⟨hI _ _ _ c hs.1 gr (.inl rfl), (gr.block _ (Array.getElem?_eq_some_iff.1 hs.2.1).1 (by simp; omega)).trans hs.2.1, (gr.block _ (Array.getElem?_eq_some_iff.1 hs.2.2).1 (by simp; omega)).trans hs.2.2⟩)
      (fun xs A B hs gr => And.intro (hIx _ _ c hs.1 gr (.inl rfl)) (And.intro ((gr.block _ (Array.getElem?_eq_some_iff.1 hs.2.1).1 (by simp; omega)).trans hs.2.1) ((gr.block _ (Array.getElem?_eq_some_iff.1 hs.2.2).1 (by simp; omega)).trans hs.2.2)))
      ?_ (And.intro hI1 (And.intro hL1 hK1))).mono ?_
    · rintro pre x W ⟨hi, hl, hk⟩ hlen
      have hlt : w.heap.size + 1 < W.heap.size := (Array.getElem?_eq_some_iff.1 hl).1
      have hy := run_yield (P := P) (args := #[.string x]) hl (by rw [hrec]; rfl)
      rw [hrec] at hy
      refine ⟨fn, _, assign, body, hy, roundIn_of_wpIn hfn (hassign _ x W _ ⟨_, run_beginRound hl (by rw [hrec]), ?_⟩)⟩
      obtain ⟨V, hV⟩ : ∃ V, V = W.putObj (w.heap.size + 1) (.loop { rec .ready none with state := .busy }) := ⟨_, rfl⟩
      rw [← hV]
      have hl2 : V.heap[w.heap.size + 1]? = some (.loop { rec .ready none with state := .busy }) := by rw [hV]; exact World.putObj_heap_same hlt
      have hk2 : V.heap[w.heap.size]? = some (.deferred (some [])) := by rw [hV]; exact (World.putObj_heap_other (by omega)).trans hk
      have hc2 : V.heap[c]? = W.heap[c]? := by rw [hV]; exact World.putObj_heap_other (by omega)
      have hi2 : I pre V := by rw [hV]; exact hI _ _ _ _ hi (grownBy_putObj' W _ _) (.inr ⟨by omega, by omega⟩)
      refine wpIn_mono (hbody _ pre x V (by have := (Array.getElem?_eq_some_iff.1 hl2).1; omega) hi2 hlen) ?_
      rintro e a3 W3 hp
      cases e with
      | normal =>
        obtain ⟨hkk, hcc, hi3⟩ := hp
        have hl3 := (hkk (w.heap.size + 1) (by omega) (by omega)).trans hl2
        have hk3 := (hkk w.heap.size (by omega) (by omega)).trans hk2
        have hr := run_endRound (P := P) none hl3
        refine ⟨_, _, hr, .inl ⟨rfl, ⟨hI _ _ _ _ hi3 (grownBy_putObj' W3 _ _) (.inr ⟨by omega, by omega⟩), ?_, (World.putObj_heap_other (by omega)).trans hk3⟩, (World.putObj_heap_other (by omega)).trans (hcc.trans hc2)⟩⟩
        rw [World.putObj_heap_same (Array.getElem?_eq_some_iff.1 hl3).1, hrec]
        rfl
      | ret =>
        obtain ⟨hkk, hi3⟩ := hp
        have hl3 := (hkk (w.heap.size + 1) (by omega) (by omega)).trans hl2
        have hk3 := (hkk w.heap.size (by omega) (by omega)).trans hk2
        have hr := run_endRound (P := P) (some .ret) hl3
        refine ⟨_, _, hr, .inr ⟨rfl, hIx _ _ _ hi3 (grownBy_putObj' W3 _ _) (.inr ⟨by omega, by omega⟩), ?_, (World.putObj_heap_other (by omega)).trans hk3⟩⟩
        rw [World.putObj_heap_same (Array.getElem?_eq_some_iff.1 hl3).1, hrec]
        rfl
      | exit id => exact hp.elim
      | goto t => exact hp.elim
      | panic ch => exact hp.elim
      | outgrown => exact hp.elim
    · rintro e W2 ⟨⟨v, rfl⟩, (⟨xs, hxl, hi, hl, hk⟩ | ⟨pre, hi, hl, hk⟩)⟩
      · have hr := run_endLoop (P := P) hl (by rw [hrec]; simp)
        rw [hrec] at hr
        exact ⟨none, _, hr, hdone xs _ hxl (hI _ _ _ _ hi (grownBy_putObj' W2 _ _) (.inr ⟨by omega, by omega⟩)) ((World.putObj_heap_other (by omega)).trans hk)⟩
      · have hr := run_endLoop (P := P) hl (by rw [hrec]; simp)
        rw [hrec] at hr
        exact ⟨some .ret, _, hr, hstop _ (hIx _ _ _ hi (grownBy_putObj' W2 _ _) (.inr ⟨by omega, by omega⟩)) ((World.putObj_heap_other (by omega)).trans hk)⟩
end
set_option maxRecDepth 100000 in
set_option maxHeartbeats 4000000 in
theorem lines_good (n : Nat) (hn : 1 ≤ n) (c : Nat) (s : ByteArray) (hs : s.size ≤ 1048576) : SeqLines Fence.wide n Tryz.prog 41 #[.pointer (some ⟨c, 0, none⟩)] c s := by
  intro l J Jx W hc hJ hJx hY h0
  refine callsIn_of_wp Tryz.func41 rfl trivial ?_ rfl
  simp only [Tryz.ntmps41, List.size_toArray, List.length_cons, List.length_nil, Nat.reduceAdd, Nat.reduceSub, Array.replicate_succ, Array.replicate_zero, List.push_toArray, List.append_toArray, List.nil_append, List.cons_append]
  gi_wp2
  gi_loopw [3, 4] (fun _ _ wr => ∃ (pre : List ByteArray) (r : ByteArray), wr.heap[c]? = some (.cells #[.string r] 9 (0, 0)) ∧ J pre wr ∧ s.data.toList = catB pre ++ r.data.toList) (fun _ _ wr => boxLen wr c)
  case atStart => exact ⟨[], s, hc, h0, rfl⟩
  case round =>
    obtain ⟨pre, r, hr, hj, hl⟩ := hrel
    have HLL := Lib.hid hl
    have hrs : r.size ≤ s.size := by
      have := congrArg List.length hl
      simp at this
      omega
    clear hl
    have c0 : wr.cell? ⟨c, 0, none⟩ = some (.string r) := by rw [cell_of_row wr c 0 _ 9 (0, 0) hr]; rfl
    have f0 : wr.frozen? ⟨c, 0, none⟩ = false := frozen_of_row wr c 0 _ 9 hr
    by_cases hz : 0 < r.size
    · have gs : ∀ u : Value, wr.grownBy (wr.setCell ⟨c, 0, none⟩ u) (some c) := fun u => ⟨rfl, rfl, rfl, by simp, fun k _ hk => heap_setCell_other wr ⟨c, 0, none⟩ k u (fun e => hk (by simp at e; rw [e]))⟩
      have hs2 : ∀ u : Value, (wr.setCell ⟨c, 0, none⟩ u).heap[c]? = some (.cells #[u] 9 (0, 0)) := fun u => by rw [heap_setCell_same wr c 0 _ 9 u hr]; rfl
      have GS := Lib.hid gs
      have HS2 := Lib.hid hs2
      clear gs hs2
      have hbl := boxLen_eq hr
      have HBL := Lib.hid hbl
      clear hbl
      rcases index_cases r 10 with ⟨k, hk, hkl⟩ | hk
      · gi_wp2_with (refine ⟨trivial, ?_⟩; gi_at_call 42; refine (callsIn_wide.2 (Tryz.strings_IndexByte r 10 _)).mono ?_; rintro e w' ⟨rfl, hw⟩; rw [hw, show (10 : Int).toNat.toUInt8 = 10 from rfl, hk])
        have hk1 : (k : Int) + 1 ≤ r.size := by omega
        gi_region
        all_goals
          obtain ⟨fn, tmps, assign, body, hy, hR⟩ := hY pre (r.extract 0 (k + 1)) (wr.setCell ⟨c, 0, none⟩ (.string (r.extract (k + 1) r.size))).drew (hJ _ _ _ hj ⟨rfl, rfl, rfl, (GS.out (.string (r.extract (k + 1) r.size))).size, (GS.out (.string (r.extract (k + 1) r.size))).block⟩) (piece_cut HLL.out hk)
          have HR := Lib.hid hR
          clear hR
          have hex : (r.extract (k + 1) r.size).size = r.size - (k + 1) := by rw [ByteArray.size_extract]; omega
          have HEX := Lib.hid hex
          clear hex
          gi_wp2
          refine HR.out.mono ?_
          rintro e W3 (⟨rfl, hJ3, hk3⟩ | ⟨rfl, hJx3⟩)
          · gi_wp2
            go_roundw
            case rel => exact ⟨pre ++ [r.extract 0 (k + 1)], r.extract (k + 1) r.size, hk3.trans (HS2.out _), hJ3, cat_cut HLL.out hkl⟩
            case measure => rw [HBL.out, boxLen_eq (hk3.trans (HS2.out _)), HEX.out]; omega
          · gi_wp2
            refine bodyPost_ret (results_none rfl _ _ _) rfl ?_
            exact ⟨⟨_, rfl⟩, .inr ⟨_, hJx3⟩⟩
      · obtain ⟨fn, tmps, assign, body, hy, hR⟩ := hY pre r (wr.setCell ⟨c, 0, none⟩ (.string ⟨#[]⟩)) (hJ _ _ _ hj (GS.out _)) (piece_all HLL.out hz hk)
        have HR := Lib.hid hR
        clear hR
        gi_wp2_with (refine ⟨trivial, ?_⟩; gi_at_call 42; refine (callsIn_wide.2 (Tryz.strings_IndexByte r 10 _)).mono ?_; rintro e w' ⟨rfl, hw⟩; rw [hw, show (10 : Int).toNat.toUInt8 = 10 from rfl, hk])
        refine HR.out.mono ?_
        rintro e W3 (⟨rfl, hJ3, hk3⟩ | ⟨rfl, hJx3⟩)
        · gi_wp2
          go_roundw
          case rel => exact ⟨pre ++ [r], ⟨#[]⟩, hk3.trans (HS2.out _), hJ3, by rw [HLL.out]; unfold catB; rw [List.flatMap_append]; simp⟩
          case measure => rw [HBL.out, boxLen_eq (hk3.trans (HS2.out _))]; exact hz
        · gi_wp2
          refine bodyPost_ret (results_none rfl _ _ _) rfl ?_
          exact ⟨⟨_, rfl⟩, .inr ⟨_, hJx3⟩⟩
    · have hz0 : r.size = 0 := by omega
      gi_wp2
      refine bodyPost_end (results_none rfl _ _ _) rfl ?_
      exact ⟨⟨_, rfl⟩, .inl ⟨pre, by rw [HLL.out, nil_of_size hz0, List.append_nil], hj⟩⟩
end Go.Proofs.YtkgbldkjpohinaaGreatDoor
