/- hash.Unhex reads digits. -/
import Derived.Test.YtkgbldkjpohinaaGreatDoorHex
import Derived.Test.YtkgbldkjpohinaaGreatDoorOwnB
import Derived.Test.YtkgbldkjpohinaaGreatDoorTail2
namespace Go.Proofs.YtkgbldkjpohinaaGreatDoor
open Go.RowKit
/-- A digit's number. -/
def digv (c : Int) : Option Int := if 48 ≤ c ∧ c ≤ 57 then some (c - 48) else if 97 ≤ c ∧ c ≤ 102 then some (c - 87) else none
theorem digv_bound {c x : Int} (h : digv c = some x) : 0 ≤ x ∧ x < 16 := by
  unfold digv at h
  split at h
  · simp at h; omega
  · split at h
    · simp at h; omega
    · cases h
theorem digv_hexd {k : Int} (h0 : 0 ≤ k) (h1 : k < 16) : digv (hexd k) = some k := by
  unfold hexd digv
  split
  · rw [if_pos (by omega)]; congr 1; omega
  · rw [if_neg (by omega), if_pos (by omega)]; congr 1; omega
theorem hexd_digv {c k : Int} (h : digv c = some k) : hexd k = c := by
  unfold digv at h
  unfold hexd
  split at h
  · simp at h; rw [if_pos (by omega)]; omega
  · split at h
    · simp at h; rw [if_neg (by omega)]; omega
    · cases h
/-- Digits read as bytes. -/
def unhexL : List Int → Option (List Int)
  | [] => some []
  | [_] => none
  | a :: b :: r => match digv a, digv b with
    | some x, some y => (unhexL r).map fun t => (16 * x + y) :: t
    | _, _ => none
theorem unhexL_hexL (l : List Int) (h : Octs l) : unhexL (hexL l) = some l := by
  induction l with
  | nil => rfl
  | cons a l ih =>
    have ha := h a (by simp)
    have hl : Octs l := fun x hx => h x (by simp [hx])
    have e : hexL (a :: l) = hexd (a / 16) :: hexd (a % 16) :: hexL l := by simp [hexL]
    rw [e, unhexL, digv_hexd (by omega) (by omega), digv_hexd (by omega) (by omega)]
    simp only [ih hl, Option.map_some, Option.some.injEq, List.cons.injEq, and_true]
    omega
theorem digit_any (c : Int) (w : World) (h0 : 0 ≤ c) (h1 : c < 256) :
    Calls Tryz.prog 57 #[.int .u8 c] w fun e w' => e = .returned (.tuple #[.int .u8 ((digv c).getD 0), .bool (digv c).isSome]) ∧ w = w' := by
  by_cases a : 48 ≤ c
  · by_cases b : c ≤ 57
    · have hd : digv c = some (c - 48) := by unfold digv; rw [if_pos ⟨a, b⟩]
      rw [hd]
      go_enter Tryz.func57, Tryz.ntmps57
      go_wp2
      go_ret2
      exact ⟨rfl, rfl⟩
    · by_cases c1 : 97 ≤ c
      · by_cases c2 : c ≤ 102
        · have hd : digv c = some (c - 87) := by unfold digv; rw [if_neg (by omega), if_pos ⟨c1, c2⟩]
          rw [hd]
          go_enter Tryz.func57, Tryz.ntmps57
          go_wp2
          go_ret2
          refine ⟨?_, rfl⟩
          have : c - 97 + 10 = c - 87 := by omega
          simp [this]
        · have hd : digv c = none := by unfold digv; rw [if_neg (by omega), if_neg (by omega)]
          rw [hd]
          go_enter Tryz.func57, Tryz.ntmps57
          go_wp2
          go_ret2
          exact ⟨rfl, rfl⟩
      · have hd : digv c = none := by unfold digv; rw [if_neg (by omega), if_neg (by omega)]
        rw [hd]
        go_enter Tryz.func57, Tryz.ntmps57
        go_wp2
        go_ret2
        exact ⟨rfl, rfl⟩
  · have hd : digv c = none := by unfold digv; rw [if_neg (by omega), if_neg (by omega)]
    rw [hd]
    go_enter Tryz.func57, Tryz.ntmps57
    go_wp2
    go_ret2
    exact ⟨rfl, rfl⟩
theorem dig_some {c p : Int} (w : World) (h0 : 0 ≤ c) (h1 : c < 256) (h : digv c = some p) : Calls Tryz.prog 57 #[.int .u8 c] w fun e w' => e = .returned (.tuple #[.int .u8 p, .bool true]) ∧ w = w' := by
  have := digit_any c w h0 h1
  rw [h] at this
  exact this
theorem dig_none {c : Int} (w : World) (h0 : 0 ≤ c) (h1 : c < 256) (h : digv c = none) : Calls Tryz.prog 57 #[.int .u8 c] w fun e w' => e = .returned (.tuple #[.int .u8 0, .bool false]) ∧ w = w' := by
  have := digit_any c w h0 h1
  rw [h] at this
  exact this
theorem unhexL_append : ∀ (a b : List Int), a.length % 2 = 0 → unhexL (a ++ b) = match unhexL a, unhexL b with
    | some x, some y => some (x ++ y)
    | _, _ => none
  | [], b, _ => by simp only [List.nil_append, unhexL]; cases unhexL b <;> simp
  | [_], b, h => by simp at h
  | x :: y :: r, b, h => by
    have hr : r.length % 2 = 0 := by simp only [List.length_cons] at h; omega
    simp only [List.cons_append, unhexL]
    cases digv x <;> cases digv y <;> simp only [unhexL_append r b hr]
    cases unhexL r <;> cases unhexL b <;> simp
theorem unhexL_pair {a b x y : Int} (h1 : digv a = some x) (h2 : digv b = some y) : unhexL [a, b] = some [16 * x + y] := by simp [unhexL, h1, h2]
theorem take_two (l : List Int) (k : Nat) (h : 2 * k + 1 < l.length) : l.take (2 * (k + 1)) = l.take (2 * k) ++ [l.getD (2 * k) 0, l.getD (2 * k + 1) 0] := by
  have h0 : 2 * k < l.length := by omega
  have e1 := List.take_succ_eq_append_getElem (l := l) (i := 2 * k + 1) h
  have e2 := List.take_succ_eq_append_getElem (l := l) (i := 2 * k) h0
  have g1 : l.getD (2 * k) 0 = l[2 * k] := by simp [List.getD, h0]
  have g2 : l.getD (2 * k + 1) 0 = l[2 * k + 1] := by simp [List.getD, h]
  rw [g1, g2, show 2 * (k + 1) = 2 * k + 1 + 1 by omega, e1, e2, List.append_assoc]
  rfl
theorem unhexL_step {l out : List Int} {k : Nat} {x y : Int} (ho : unhexL (l.take (2 * k)) = some out) (h : 2 * k + 1 < l.length) (h1 : digv (l.getD (2 * k) 0) = some x) (h2 : digv (l.getD (2 * k + 1) 0) = some y) :
    unhexL (l.take (2 * (k + 1))) = some (out ++ [16 * x + y]) := by
  rw [take_two l k h, unhexL_append _ _ (by rw [List.length_take]; omega), ho, unhexL_pair h1 h2]
theorem unhexL_fails {l out : List Int} {k : Nat} (ho : unhexL (l.take (2 * k)) = some out) (h : 2 * k + 1 < l.length) (hd : digv (l.getD (2 * k) 0) = none ∨ digv (l.getD (2 * k + 1) 0) = none) : unhexL l = none := by
  have e : l = l.take (2 * k) ++ (l.getD (2 * k) 0 :: l.getD (2 * k + 1) 0 :: l.drop (2 * (k + 1))) := by
    have := take_two l k h
    conv => lhs; rw [← List.take_append_drop (2 * (k + 1)) l, this]
    simp
  rw [e, unhexL_append _ _ (by rw [List.length_take]; omega), ho]
  have : unhexL (l.getD (2 * k) 0 :: l.getD (2 * k + 1) 0 :: l.drop (2 * (k + 1))) = none := by
    rw [unhexL]
    rcases hd with hd | hd
    · rw [hd]
    · rw [hd]; cases digv (l.getD (2 * k) 0) <;> rfl
  rw [this]
theorem unhexL_odd : ∀ (l : List Int), l.length % 2 = 1 → unhexL l = none
  | [], h => by simp at h
  | [_], _ => rfl
  | x :: y :: r, h => by
    have hr := unhexL_odd r (by simp only [List.length_cons] at h; omega)
    rw [unhexL, hr]
    cases digv x <;> cases digv y <;> rfl
theorem unhexL_octs : ∀ (l out : List Int), unhexL l = some out → Octs out
  | [], out, h => by simp [unhexL] at h; subst h; intro x hx; cases hx
  | [_], out, h => by simp [unhexL] at h
  | a :: b :: r, out, h => by
    rw [unhexL] at h
    cases ha : digv a with
    | none => rw [ha] at h; cases h
    | some x =>
      cases hb : digv b with
      | none => rw [ha, hb] at h; cases h
      | some y =>
        rw [ha, hb] at h
        simp only [Option.map_eq_some_iff] at h
        obtain ⟨t, ht, rfl⟩ := h
        have h1 := digv_bound ha
        have h2 := digv_bound hb
        intro z hz
        rcases List.mem_cons.1 hz with rfl | hz
        · omega
        · exact unhexL_octs r t ht z hz
theorem unhexL_len : ∀ (l out : List Int), unhexL l = some out → l.length = 2 * out.length
  | [], out, h => by simp [unhexL] at h; subst h; rfl
  | [_], out, h => by simp [unhexL] at h
  | a :: b :: r, out, h => by
    rw [unhexL] at h
    cases ha : digv a with
    | none => rw [ha] at h; cases h
    | some x =>
      cases hb : digv b with
      | none => rw [ha, hb] at h; cases h
      | some y =>
        rw [ha, hb] at h
        simp only [Option.map_eq_some_iff] at h
        obtain ⟨t, ht, rfl⟩ := h
        have := unhexL_len r t ht
        simp only [List.length_cons]; omega
/-- A byte of a string. -/
theorem run_index_byte {P : Program} (w : World) (hu : P.underlying 9 = some .string) (s : ByteArray) (k : Nat) (hk : k < s.size) : (Instr.index 9 (.string s) (.int .i64 (k : Int))).run P w = .ok (.int .u8 ((bytesOf s).getD k 0)) w := by
  have hk' : k < s.data.size := hk
  have e : s[k]? = some s.data[k] := by
    rw [getElem?_pos s k hk]; rfl
  simp [Instr.index, run_underlying hu, asIntOf, e, bytesOf, List.getD]
  rw [Array.getElem?_eq_getElem hk']
  simp
theorem wpList_index_byte {P : Program} {ops : Array Oper} {Q : Exit → Act → World → Prop} {a : Act} {w : World} {rest : List Oper} {o : Oper} (hg : o.guard = none) (x i : Operand) (hop : o.op = .index 9 x i) (s : ByteArray) (k : Nat)
    (hx : a.eval x = .string s) (I : Int) (hi : a.eval i = .int .i64 I) (hI : I = (k : Int)) (hu : P.underlying 9 = some .string) (hk : k < s.size) (h : wpList P ops Q rest (a.put o.dst (.int .u8 ((bytesOf s).getD k 0))) w) : wpList P ops Q (o :: rest) a w := by
  subst hI
  exact wpList_val hg _ (by simp [execOp, hop, hx, hi, run_index_byte w hu s k hk]) h
theorem or4_all : ∀ x y : Fin 16, bits .or .u8 ((x.val : Int) * 16 % 256) (y.val : Int) = 16 * (x.val : Int) + (y.val : Int) := by decide +kernel
theorem or4 (x y : Int) (h0 : 0 ≤ x) (h1 : x < 16) (h2 : 0 ≤ y) (h3 : y < 16) : bits .or .u8 (x * 16) y = 16 * x + y := by
  have := or4_all ⟨x.toNat, by omega⟩ ⟨y.toNat, by omega⟩
  simp only [Int.toNat_of_nonneg h0, Int.toNat_of_nonneg h2] at this
  rw [← this, show x * 16 % 256 = x * 16 by omega]
set_option maxRecDepth 100000 in
set_option maxHeartbeats 1000000 in
theorem unhex_any (s : ByteArray) (w : World) (hs : s.size ≤ 281474976710656) :
    Calls Tryz.prog 45 #[.string s] w fun e w' => ∃ v, e = .returned (.tuple #[v, .bool (unhexL (bytesOf s)).isSome]) ∧ BytesAt w' v ((unhexL (bytesOf s)).getD []) ∧ Below w.heap.size w w' := by
  obtain ⟨i0, hi, hz0, hz1, hz2⟩ := info_parts info5
  by_cases hodd : s.size % 2 = 0
  · go_enter Tryz.func45, Tryz.ntmps45
    have ho : ((s.size : Int) % 2 != 0) = false := by simp; omega
    go_wp2_with (first
      | ((with_reducible show wpList _ _ _ (⟨some 17, _, _, _, _, _⟩ :: _) _ _); go_must (refine wpList_make_own _ rfl _ _ 80 rfl w.heap.size 5 i0 (.int .u8 0) 1 und23 hi hz0 hz1 _ _ _ (s.size / 2) rfl rfl (by omega) (by rw [hz2]; omega) (by unfold maxLen; omega) (Nat.le_refl _) ?_); intro w1 hown1 hg1; simp only [Act.put, List.setIfInBounds_toArray, List.set_cons_zero, List.set_cons_succ]))
    have hb1 : Below w.heap.size w w1 := (Below.refl _ _).grown hg1 (Nat.le_refl _) (fun k hk => by cases hk)
    go_loopw [4, 5] (fun u i wr => ∃ k : Nat, 2 * k ≤ s.size ∧ i = .int .i64 (2 * (k : Int)) ∧ ∃ out, unhexL ((bytesOf s).take (2 * k)) = some out ∧ wr.ownsRow w.heap.size 5 1 u k (octets out) ∧ Below w.heap.size w wr) (fun _ i _ => (s.size - intOf i).toNat)
    case atStart => exact ⟨0, by omega, rfl, [], rfl, hown1, hb1⟩
    case round =>
      clear hown1 hb1 hg1
      obtain ⟨k, hk, rfl, out, hout, hown, hb⟩ := hrel
      obtain ⟨ao3, c3, rfl, hc3, _⟩ := owns_shape hown
      by_cases hlt : 2 * k < s.size
      · obtain ⟨x, hx⟩ : ∃ x, x = (bytesOf s).getD (2 * k) 0 := ⟨_, rfl⟩
        obtain ⟨y, hy⟩ : ∃ y, y = (bytesOf s).getD (2 * k + 1) 0 := ⟨_, rfl⟩
        have hxb := (bytesOf_octs s).getD (2 * k)
        have hyb := (bytesOf_octs s).getD (2 * k + 1)
        rw [← hx] at hxb
        rw [← hy] at hyb
        have hl : 2 * k + 1 < (bytesOf s).length := by rw [bytesOf_length]; omega
        have hfail : digv x = none ∨ digv y = none → unhexL (bytesOf s) = none := fun h => unhexL_fails hout hl (by rw [← hx, ← hy]; exact h)
        have hstep : ∀ a b, digv x = some a → digv y = some b → unhexL ((bytesOf s).take (2 * (k + 1))) = some (out ++ [16 * a + b]) := fun a b h1 h2 => unhexL_step hout hl (by rw [← hx]; exact h1) (by rw [← hy]; exact h2)
        have Hx := Lib.hid hx
        have Hy := Lib.hid hy
        have Hfail := Lib.hid hfail
        have Hstep := Lib.hid hstep
        clear hx hy hfail hstep hout hl
        have hdx := fun z => digv_bound (c := x) (x := z)
        have hdy := fun z => digv_bound (c := y) (x := z)
        rcases hex : digv x with _ | p
        · have Hn := Lib.hid (Hfail.out (Or.inl hex))
          clear hdx hdy
          rcases hey : digv y with _ | q
          all_goals
            go_wp2_with (first
              | ((with_reducible show wpList _ _ _ (⟨some 27, _, _, _, _, _⟩ :: _) _ _); go_must (refine wpList_index_byte rfl _ _ rfl s (2 * k) rfl _ rfl (by omega) und9 hlt ?_); simp only [Act.put, List.setIfInBounds_toArray, List.set_cons_zero, List.set_cons_succ]; rw [← Hx.out])
              | ((with_reducible show wpList _ _ _ (⟨some 35, _, _, _, _, _⟩ :: _) _ _); go_must (refine wpList_index_byte rfl _ _ rfl s (2 * k + 1) rfl _ rfl (by omega) und9 (by omega) ?_); simp only [Act.put, List.setIfInBounds_toArray, List.set_cons_zero, List.set_cons_succ]; rw [← Hy.out])
              | (go_at_call 57; first | (refine (dig_none _ (by omega) (by omega) (by assumption)).mono ?_; rintro e w' ⟨rfl, rfl⟩) | (refine (dig_some _ (by omega) (by omega) (by assumption)).mono ?_; rintro e w' ⟨rfl, rfl⟩)))
            go_ret2
            rw [Hn.out]
            exact ⟨_, rfl, BytesAt.nil _, hb⟩
        · rcases hey : digv y with _ | q
          · have Hn := Lib.hid (Hfail.out (Or.inr hey))
            have hp := hdx _ hex
            clear hdx hdy
            go_wp2_with (first
              | ((with_reducible show wpList _ _ _ (⟨some 27, _, _, _, _, _⟩ :: _) _ _); go_must (refine wpList_index_byte rfl _ _ rfl s (2 * k) rfl _ rfl (by omega) und9 hlt ?_); simp only [Act.put, List.setIfInBounds_toArray, List.set_cons_zero, List.set_cons_succ]; rw [← Hx.out])
              | ((with_reducible show wpList _ _ _ (⟨some 35, _, _, _, _, _⟩ :: _) _ _); go_must (refine wpList_index_byte rfl _ _ rfl s (2 * k + 1) rfl _ rfl (by omega) und9 (by omega) ?_); simp only [Act.put, List.setIfInBounds_toArray, List.set_cons_zero, List.set_cons_succ]; rw [← Hy.out])
              | (go_at_call 57; first | (refine (dig_none _ (by omega) (by omega) (by assumption)).mono ?_; rintro e w' ⟨rfl, rfl⟩) | (refine (dig_some _ (by omega) (by omega) (by assumption)).mono ?_; rintro e w' ⟨rfl, rfl⟩)))
            go_ret2
            rw [Hn.out]
            exact ⟨_, rfl, BytesAt.nil _, hb⟩
          · have hp := hdx _ hex
            have hq := hdy _ hey
            have Hs := Lib.hid (Hstep.out p q hex hey)
            clear hdx hdy
            go_wp2_with (first
              | ((with_reducible show wpList _ _ _ (⟨some 27, _, _, _, _, _⟩ :: _) _ _); go_must (refine wpList_index_byte rfl _ _ rfl s (2 * k) rfl _ rfl (by omega) und9 hlt ?_); simp only [Act.put, List.setIfInBounds_toArray, List.set_cons_zero, List.set_cons_succ]; rw [← Hx.out])
              | ((with_reducible show wpList _ _ _ (⟨some 35, _, _, _, _, _⟩ :: _) _ _); go_must (refine wpList_index_byte rfl _ _ rfl s (2 * k + 1) rfl _ rfl (by omega) und9 (by omega) ?_); simp only [Act.put, List.setIfInBounds_toArray, List.set_cons_zero, List.set_cons_succ]; rw [← Hy.out])
              | (go_at_call 57; refine (dig_some _ (by omega) (by omega) (by assumption)).mono ?_; rintro e w' ⟨rfl, rfl⟩)
              | ((with_reducible show wpList _ _ _ (⟨some 51, _, _, _, _, _⟩ :: _) _ _); go_must (refine wpList_append_bytes rfl _ _ 80 rfl w.heap.size 5 i0 (.int .u8 0) und23 hi hz0 hz1 hz2 rfl _ _ out [bits .or .u8 (p * 16) q] rfl (hown.alloc _) _ rfl (BytesAt.new wr 5 _ (by simp)) (by simp; omega) (by have := hb.size; simp; omega) ?_; intro v8 w8 hown8 hg8 hn8; simp only [Act.put, List.setIfInBounds_toArray, List.set_cons_zero, List.set_cons_succ])))
            rw [or4 p q hp.1 hp.2 hq.1 hq.2] at hown8
            go_roundw
            case rel =>
              refine ⟨k + 1, by omega, by go_num, _, Hs.out, ?_, ?_⟩
              · exact hown8
              · exact (hb.alloc hb.size _).grown hg8 (by have := hb.size; simp; omega) (fun k hk => (hown.lt k hk).1)
            case measure => first | (simp [intOf]; done) | (simp [intOf]; omega)
      · have hk' : bytesOf s = (bytesOf s).take (2 * k) := by rw [List.take_of_length_le (by rw [bytesOf_length]; omega)]
        rw [← hk'] at hout
        have Hout := Lib.hid hout
        clear hk' hout
        go_wp2
        go_ret2
        rw [Hout.out]
        exact ⟨_, rfl, BytesAt.of_owns hown, hb⟩
  · go_enter Tryz.func45, Tryz.ntmps45
    have ho : ((s.size : Int) % 2 != 0) = true := by simp; omega
    go_wp2
    go_ret2
    rw [unhexL_odd (bytesOf s) (by rw [bytesOf_length]; omega)]
    exact ⟨_, rfl, BytesAt.nil _, Below.refl _ _⟩
end Go.Proofs.YtkgbldkjpohinaaGreatDoor
