/- (*Book).Add. -/
import Derived.Test.YtkgbldkjpohinaaGreatDoorBook
import Derived.Test.YtkgbldkjpohinaaGreatDoorStretch
namespace Go.Proofs.YtkgbldkjpohinaaGreatDoor
open Go.RowKit Go.Maps
open Go.WideMaps (keyOf_string_mk)
theorem law9 : Keyed Tryz.prog 9 := string_keyed und9
theorem und59 : Tryz.prog.underlying 44 = some (.map 9 53) := by kernel_rfl
theorem und60 : Tryz.prog.underlying 45 = some (.map 9 63) := by kernel_rfl
theorem zero64 (w : World) : (zeroValue 53).run Tryz.prog w = .ok (.agg #[.string ByteArray.empty, .int .i64 0, .string ByteArray.empty, .int .i64 0]) w := by kernel_rfl
theorem zero68 (w : World) : (zeroValue 63).run Tryz.prog w = .ok (.agg #[.int .i64 0, .int .i64 0]) w := by kernel_rfl
def noU : DataW Unit := entD ByteArray.empty 0 ByteArray.empty 0
def noF : DataW Unit := failD 0 0
theorem readU_inv {v : Value} {z : DataW Unit × List MemPlace} (h : readU v = some z) : ∃ s t x n, v = .agg #[.string s, .int .i64 t, .string x, .int .i64 n] ∧ z = (entD s t x n, []) := by
  unfold readU at h
  split at h
  · rename_i cs
    split at h
    · rename_i s t x n he
      cases h
      exact ⟨s, t, x, n, by rw [← he], rfl⟩
    · cases h
  · cases h
theorem readF_inv {v : Value} {z : DataW Unit × List MemPlace} (h : readF v = some z) : ∃ c t, v = .agg #[.int .i64 c, .int .i64 t] ∧ z = (failD c t, []) := by
  unfold readF at h
  split at h
  · rename_i cs
    split at h
    · rename_i c t he
      cases h
      exact ⟨c, t, by rw [← he], rfl⟩
    · cases h
  · cases h
section
variable (w : World) {ops : Array Oper} {rest : List Oper} {o : Oper} {a : Act} {Q : Exit → Act → World → Prop}
theorem wpList_lookup_user (hg : o.guard = none) (m x : Operand) (hop : o.op = Op.lookup 44 m x true) (b n : Nat) (D : DataW Unit) (hm : a.eval m = .map (some b)) (hown : w.ownsMap Tryz.prog 9 readU b n D) (s : ByteArray) (hx : a.eval x = .string s) (hs : s.size ≤ maxLen)
    (hK : ∀ p t q i, D.atKey (.string s.data.toList) noU = entD p t q i → wpList Tryz.prog ops Q rest (a.put o.dst (.tuple #[.agg #[.string p, .int .i64 t, .string q, .int .i64 i], .bool (Maps.has D (.string s.data.toList))])) w) : wpList Tryz.prog ops Q (o :: rest) a w :=
  wpList_lookup_own_ok w hg m x 44 hop 9 53 law9 und59 readU (zero64 w) noU [] rfl b n D hm hown _ _ hx (keyOf_string_mk und9 hs) fun v ps hv => by
    obtain ⟨p, t, q, i, rfl, hz⟩ := readU_inv hv
    exact hK p t q i (congrArg Prod.fst hz)
theorem wpList_lookup_fail (hg : o.guard = none) (m x : Operand) (hop : o.op = Op.lookup 45 m x true) (b n : Nat) (D : DataW Unit) (hm : a.eval m = .map (some b)) (hown : w.ownsMap Tryz.prog 9 readF b n D) (s : ByteArray) (hx : a.eval x = .string s) (hs : s.size ≤ maxLen)
    (hK : ∀ c t, D.atKey (.string s.data.toList) noF = failD c t → wpList Tryz.prog ops Q rest (a.put o.dst (.tuple #[.agg #[.int .i64 c, .int .i64 t], .bool (Maps.has D (.string s.data.toList))])) w) : wpList Tryz.prog ops Q (o :: rest) a w :=
  wpList_lookup_own_ok w hg m x 45 hop 9 63 law9 und60 readF (zero68 w) noF [] rfl b n D hm hown _ _ hx (keyOf_string_mk und9 hs) fun v ps hv => by
    obtain ⟨c, t, rfl, hz⟩ := readF_inv hv
    exact hK c t (congrArg Prod.fst hz)
end
theorem ownsMap_below {H : Type} {P : Program} {k : TypeId} {R : Value → Option (DataW H × List MemPlace)} {B b n : Nat} {D : DataW H} {w w' : World} (h : w.ownsMap P k R b n D) (hb : Below B w w') (hlt : b < B) : w'.ownsMap P k R b n D := by
  obtain ⟨es, clock, h0, r⟩ := h
  exact ⟨es, clock, (hb.block b hlt).trans h0, r⟩
theorem grown_below {w w' : World} (h : Below w.heap.size w w') (row : Option Nat) : w.grownBy w' row := ⟨h.os, h.tape, h.output, h.size, fun i hi _ => h.block i hi⟩
def hashOf (salt text : ByteArray) (steps : Int) : ByteArray := strOfNums (hexL (stretchL (bytesOf salt) (bytesOf text) (min (max steps 0) 1000).toNat))
/-- What Add answers. -/
def addCode (D : DataW Unit) (name : ByteArray) : Int := if Maps.has D (.string name.data.toList) then 64 else if 9 ≤ Maps.size D then 65 else 0
def addTo (D : DataW Unit) (name salt text : ByteArray) (steps id : Int) : DataW Unit := if addCode D name = 0 then D.put (.string name.data.toList) (entD salt steps (hashOf salt text steps) id) else D
set_option maxRecDepth 100000 in
set_option maxHeartbeats 1000000 in
theorem add_any (b mu mf nu : Nat) (Du : DataW Unit) (tries wait : Int) (name salt text : ByteArray) (steps id : Int) (w : World) (hB : BookAt w b tries wait mu mf) (hown : w.ownsMap Tryz.prog 9 readU mu nu Du) (hnu : nu < 1000000)
    (hl : Lows name) (h1 : 1 ≤ name.size) (h2 : name.size ≤ 16) (sl : Lows salt) (s1 : 1 ≤ salt.size) (s2 : salt.size ≤ 16) (ht : text.size ≤ 64) (a0 : 0 ≤ steps) (a1 : steps ≤ 100) (i0 : 1 ≤ id) (i1 : id ≤ 2147483647) :
    Calls Tryz.prog 7 #[.pointer (some ⟨b, 0, none⟩), .string name, .string salt, .string text, .int .i64 steps, .int .i64 id] w fun e w' => e = .returned (.int .i64 (addCode Du name)) ∧ w'.ownsMap Tryz.prog 9 readU mu (nu + 1) (addTo Du name salt text steps id) ∧ w.grownBy w' (some mu) := by
  have hnl : name.size ≤ maxLen := by unfold maxLen; omega
  have c2 : w.cell? ⟨b, 2, none⟩ = some (.map (some mu)) := by rw [cell_of_row w b 2 _ 47 (0, 0) hB]; rfl
  have hlt : b < w.heap.size := (Array.getElem?_eq_some_iff.1 hB).1
  have hmu := hown.lt
  have d1 : decide ((text.size : Int) > 64) = false := by simp; omega
  by_cases hhas : Maps.has Du (.string name.data.toList) = true
  · have hc : addCode Du name = 64 := by unfold addCode; rw [if_pos hhas]
    have Hto : Hid (addTo Du name salt text steps id = Du) := by show _ = _; unfold addTo; rw [hc, if_neg (by decide)]
    rw [hc]
    clear hc
    go_enter Tryz.func7, Tryz.ntmps7
    go_wp2_with (first
      | (at_lookup; refine wpList_lookup_user _ rfl _ _ rfl mu nu Du rfl hown name rfl hnl ?_; intro p0 t0 q0 i0' hat0)
      | (go_at_call 16; refine (may_low name salt steps id _ hl h1 h2 sl s1 s2 a0 a1 i0 i1).mono ?_; rintro e w1 ⟨rfl, hb1⟩))
    go_ret
    rw [Hto.out]
    have hw1 : Below w.heap.size w w1 := ((Below.refl w.heap.size w).alloc (Nat.le_refl _) _).trans (hb1.mono (by simp))
    exact ⟨rfl, (ownsMap_below hown hw1 hmu).mono (by omega), grown_below hw1 _⟩
  · have hhas' : Maps.has Du (.string name.data.toList) = false := by simpa using hhas
    clear hhas
    by_cases hfull : 9 ≤ Maps.size Du
    · have hc : addCode Du name = 65 := by unfold addCode; rw [if_neg (by simp [hhas']), if_pos hfull]
      have Hto : Hid (addTo Du name salt text steps id = Du) := by show _ = _; unfold addTo; rw [hc, if_neg (by decide)]
      rw [hc]
      clear hc
      go_enter Tryz.func7, Tryz.ntmps7
      go_wp2_with (first
        | (at_lookup; refine wpList_lookup_user _ rfl _ _ rfl mu nu Du rfl hown name rfl hnl ?_; intro p0 t0 q0 i0' hat0)
        | (go_at_call 16; refine (may_low name salt steps id _ hl h1 h2 sl s1 s2 a0 a1 i0 i1).mono ?_; rintro e w1 ⟨rfl, hb1⟩; have hw1 : Below w.heap.size w w1 := ((Below.refl w.heap.size w).alloc (Nat.le_refl _) _).trans (hb1.mono (by simp)); have c2' : w1.cell? ⟨b, 2, none⟩ = some (.map (some mu)) := (hw1.cell (p := ⟨b, 2, none⟩) hlt).trans c2; have hown1 := ownsMap_below hown hw1 hmu; have hsz1 := hw1.size)
        | (at_len; refine wpList_len_own _ rfl _ 44 rfl 9 53 und59 _ mu nu Du rfl hown1 ?_))
      go_ret
      rw [Hto.out]
      exact ⟨rfl, hown1.mono (by omega), grown_below hw1 _⟩
    · have hc : addCode Du name = 0 := by unfold addCode; rw [if_neg (by simp [hhas']), if_neg hfull]
      have Hto : Hid (addTo Du name salt text steps id = Du.put (.string name.data.toList) (entD salt steps (hashOf salt text steps) id)) := by show _ = _; unfold addTo; rw [hc, if_pos rfl]
      rw [hc]
      clear hc
      go_enter Tryz.func7, Tryz.ntmps7
      go_wp2_with (first
        | (at_lookup; refine wpList_lookup_user _ rfl _ _ rfl mu nu Du rfl hown name rfl hnl ?_; intro p0 t0 q0 i0' hat0)
        | (go_at_call 16; refine (may_low name salt steps id _ hl h1 h2 sl s1 s2 a0 a1 i0 i1).mono ?_; rintro e w1 ⟨rfl, hb1⟩; have hw1 : Below w.heap.size w w1 := ((Below.refl w.heap.size w).alloc (Nat.le_refl _) _).trans (hb1.mono (by simp)); have c2' : w1.cell? ⟨b, 2, none⟩ = some (.map (some mu)) := (hw1.cell (p := ⟨b, 2, none⟩) hlt).trans c2; have hown1 := ownsMap_below hown hw1 hmu; have hsz1 := hw1.size)
        | (at_len; refine wpList_len_own _ rfl _ 44 rfl 9 53 und59 _ mu nu Du rfl hown1 ?_))
      have c3 : w1.drew.cell? ⟨b, 2, none⟩ = some (.map (some mu)) := c2'
      go_region_with (go_at_call 17; refine (stretch_any salt text steps _ (by omega)).mono ?_; rintro e w3 ⟨rfl, hb3⟩; have hw3 : Below w.heap.size w w3 := hw1.trans ((⟨hb3.os, hb3.tape, hb3.output, hb3.size, hb3.block⟩ : Below w1.heap.size w1 w3).mono hsz1); have c4 : w3.cell? ⟨b, 2, none⟩ = some (.map (some mu)) := (hw3.cell (p := ⟨b, 2, none⟩) hlt).trans c2; obtain ⟨w9, hrun, hown9, hg9⟩ := (ownsMap_below hown hw3 hmu).update law9 und59 (by unfold maxLen; omega) (keyOf_string_mk und9 hnl) (show readU (.agg #[.string salt, .int .i64 steps, .string (hashOf salt text steps), .int .i64 id]) = some (entD salt steps (hashOf salt text steps) id, []) from rfl); simp only [hashOf] at hrun)
      all_goals
        go_wp2
        go_ret
        rw [Hto.out]
        exact ⟨rfl, hown9, (grown_below hw3 (some mu)).trans hg9⟩
end Go.Proofs.YtkgbldkjpohinaaGreatDoor
