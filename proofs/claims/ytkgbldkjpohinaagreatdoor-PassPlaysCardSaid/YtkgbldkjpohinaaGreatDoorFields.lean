/- fields: of any text. -/
import Derived.Test.YtkgbldkjpohinaaGreatDoorBookAwake
import Derived.Maps.AppendAt
import Derived.Lib.OthersKept
import Derived.Deep.Cut
namespace Go.Proofs.YtkgbldkjpohinaaGreatDoor
open Go.RowKit Go.Maps
set_option linter.unusedVariables false
def OwnS (w : World) (B : Nat) (v : Value) (l : List ByteArray) : Prop := w.ownsRow B 9 1 v l.length (l.map Value.string)
theorem und54 : Tryz.prog.underlying 83 = some (.slice 9) := by kernel_rfl
theorem info9 : (Tryz.prog.info? 9).map (fun i => (i.zero, i.size, i.bytes)) = some (some (.string ⟨#[]⟩), 1, 16) := by kernel_rfl
/-- 'append(l, s)' at the operation. -/
theorem wpList_append_str {w : World} {ops : Array Oper} {rest : List Oper} {o : Oper} {a : Act} {Q : Exit → Act → World → Prop} (hgd : o.guard = none) (s x : Operand)
    (ho : o.op = .call { callee := .builtin .append, args := #[s, x], argTypes := #[83, 83] })
    (B : Nat) (v : Value) (l : List ByteArray) (hs : a.eval s = v) (hown : OwnS w B v l) (b c : Nat) (u : ByteArray) (hx : a.eval x = .slice (some ⟨b, 0, none⟩) 1 c) (hu : w.cell? ⟨b, 0, none⟩ = some (.string u))
    (hl : l.length < 8796093022208) (hB : B ≤ w.heap.size)
    (h : ∀ v' w', OwnS w' B v' (l ++ [u]) → w.grownBy w' v.ownBlock → wpList Tryz.prog ops Q rest (a.put o.dst v') w') : wpList Tryz.prog ops Q (o :: rest) a w := by
  obtain ⟨i, hi, hz, hsz, hby⟩ := info_parts info9
  refine wpList_append_own w hgd s x 83 ho B 9 i (.string ⟨#[]⟩) 1 16 und54 hi hz hsz hby rfl (by omega) v l.length (l.map Value.string) hs hown ⟨b, 0, none⟩ 1 c [.string u] hx rfl (fun j y hj => ?_) (fun y hy => ?_) (by unfold maxLen; omega) (by omega) hB (fun v' w' h1 h2 _ => h v' w' ?_ h2)
  · match j, hj with
    | 0, hj =>
      simp at hj
      subst hj
      simpa [Addr.add] using hu
  · rw [List.mem_singleton.1 hy]; rfl
  · unfold OwnS
    rw [List.length_append, List.map_append]
    exact h1
theorem OwnS.shape {w : World} {B : Nat} {v : Value} {l : List ByteArray} (h : OwnS w B v l) : ∃ ao cap, v = .slice ao l.length cap := by
  obtain ⟨h0, ⟨e, e2⟩ | ⟨g, cap, cur, e1, e2, e3, r⟩⟩ := h
  · exact ⟨none, 0, by rw [e2]; exact e⟩
  · exact ⟨_, _, e1⟩
theorem OwnS.row {w : World} {B : Nat} {v : Value} {l : List ByteArray} (h : OwnS w B v l) (hl : 0 < l.length) : ∃ g cap cur, v = .slice (some ⟨g, 0, none⟩) l.length cap ∧ B ≤ g ∧ w.heap[g]? = some (.cells cur 9 (0, 0)) ∧ l.length ≤ cap ∧ ∀ j (hj : j < l.length), cur[j]? = some (.string l[j]) := by
  obtain ⟨h0, ⟨e, e2⟩ | ⟨g, cap, cur, e1, e2, e3, h1, h2, h3, h4⟩⟩ := h
  · omega
  · refine ⟨g, cap, cur, e1, e2, e3, h1, fun j hj => ?_⟩
    have : (cur.toList.take (l.length * 1))[j]? = (l.map Value.string)[j]? := by rw [h4]
    rw [List.getElem?_take_of_lt (by omega)] at this
    rw [← Array.getElem?_toList, this]
    simp [hj]
theorem OwnS.keep {w w' : World} {B : Nat} {v : Value} {l : List ByteArray} (h : OwnS w B v l) (hk : ∀ (k : Nat) (cs : Array Value), w.heap[k]? = some (Obj.cells cs 9 (0, 0)) → w'.heap[k]? = some (Obj.cells cs 9 (0, 0))) : OwnS w' B v l := by
  obtain ⟨h0, h1 | ⟨g, cap, cur, e1, e2, e3, r⟩⟩ := h
  · exact ⟨h0, .inl h1⟩
  · exact ⟨h0, .inr ⟨g, cap, cur, e1, e2, hk _ _ e3, r⟩⟩
theorem own_ne_iter {w : World} {B : Nat} {v : Value} {l : List ByteArray} (h : OwnS w B v l) {k : Nat} {s : ByteArray} {p : Nat} (hk : w.heap[k]? = some (.stringIter s p)) : some k ≠ v.ownBlock := by
  obtain ⟨h0, ⟨e, _⟩ | ⟨g, cap, cur, e1, e2, e3, r⟩⟩ := h
  · rw [e]; simp [Value.ownBlock]
  · rw [e1]
    intro e
    have : k = g := by simpa [Value.ownBlock] using e
    subst this
    rw [hk] at e3
    cases e3
theorem own_ge {w : World} {B : Nat} {v : Value} {l : List ByteArray} (h : OwnS w B v l) : ∀ k, v.ownBlock = some k → B ≤ k := fun k e => (World.ownsRow.lt h k e).1
def sizes (l : List ByteArray) : Nat := (l.map ByteArray.size).sum
theorem sizes_snoc (l : List ByteArray) (u : ByteArray) : sizes (l ++ [u]) = sizes l + u.size := by simp [sizes]
def FieldsR (s : ByteArray) (w : World) (e : Ending) (w' : World) : Prop := ∃ (v : Value) (l : List ByteArray), e = .returned v ∧ OwnS w' w.heap.size v l ∧ 0 < l.length ∧ sizes l + l.length = s.size + 1 ∧ Below w.heap.size w w'
set_option maxRecDepth 100000 in
set_option maxHeartbeats 4000000 in
theorem fields_any (s : ByteArray) (w : World) (hs : s.size ≤ 1048576) : Calls Tryz.prog 43 #[.string s] w (FieldsR s w) := by
  obtain ⟨W0, hW0⟩ : ∃ W0, W0 = w.iter s 0 := ⟨_, rfl⟩
  have hal : Below w.heap.size w W0 := by rw [hW0]; exact (Below.refl _ _).alloc (Nat.le_refl _) _
  have hit : W0.heap[w.heap.size]? = some (.stringIter s 0) := by rw [hW0]; exact heap_alloc_new w _
  go_enter Tryz.func43, Tryz.ntmps43
  go_wp2
  rw [← hW0]
  clear hW0
  go_loopw [3, 4, 5, 6] (fun vo vf _ _ wr => ∃ (l : List ByteArray) (fr pos : Nat), vf = .int .i64 fr ∧ fr ≤ pos ∧ fr ≤ s.size ∧ sizes l + l.length = fr ∧ OwnS wr w.heap.size vo l ∧ wr.heap[w.heap.size]? = some (.stringIter s pos) ∧ Below w.heap.size w wr) (fun _ _ _ _ wr => match wr.heap[w.heap.size]? with | some (.stringIter _ p) => s.size - p | _ => 0)
  case atStart => exact ⟨[], 0, 0, rfl, by omega, by omega, rfl, ⟨rfl, .inl ⟨rfl, rfl⟩⟩, hit, hal⟩
  case round =>
    clear hal hit
    obtain ⟨l, fr, pos, rfl, hfp, hps, hsz, ho, hit, hb⟩ := hrel
    have HO := Lib.hid ho
    have HIT := Lib.hid hit
    have HB := Lib.hid hb
    have HSZ := Lib.hid hsz
    have hll : l.length < 8796093022208 := by omega
    obtain ⟨ao, cap, hv⟩ := ho.shape
    obtain ⟨ln, hln⟩ : ∃ n, n = l.length := ⟨_, rfl⟩
    rw [← hln] at hv
    have HLN := Lib.hid hln
    clear ho hb hsz hln
    subst hv
    by_cases hlt : pos < s.size
    · have keep : ∀ q, Below w.heap.size w (wr.iterAt w.heap.size s q) ∧ OwnS (wr.iterAt w.heap.size s q) w.heap.size (.slice ao ln cap) l ∧ (wr.iterAt w.heap.size s q).heap[w.heap.size]? = some (.stringIter s q) := fun q =>
        ⟨Lib.below_iterAt HB.out (Nat.le_refl _) s q, HO.out.keep (fun k cs e => (Lib.iterAt_other wr w.heap.size k s q (by rintro rfl; rw [HIT.out] at e; cases e)).trans e), Lib.iterAt_heap wr w.heap.size s pos q HIT.out⟩
      have KP := Lib.hid keep
      clear keep
      by_cases h58 : (s[pos]'hlt).toNat = 58
      · have hn := fun ty => Lib.run_next_ascii_at (P := Tryz.prog) wr w.heap.size s pos ty hit hlt (by omega)
        rw [h58] at hn
        clear hit h58
        go_upto_region 7 with (fail)
        obtain ⟨kb, ko, ki⟩ := KP.out (pos + 1)
        obtain ⟨W1, hW1⟩ : ∃ W1, W1 = wr.iterAt w.heap.size s (pos + 1) := ⟨_, rfl⟩
        rw [← hW1] at kb ko ki
        rw [← hW1]
        have KB := Lib.hid kb
        have KO := Lib.hid ko
        have KI := Lib.hid ki
        clear hW1 kb ko ki hn KP
        have hfr : (fr : Int) ≤ pos := by omega
        have hps2 : (pos : Int) ≤ s.size := by omega
        have hex : (s.extract fr pos).size = pos - fr := by rw [ByteArray.size_extract]; omega
        obtain ⟨U, hU⟩ : ∃ U, U = s.extract fr pos := ⟨_, rfl⟩
        rw [← hU] at hex
        have HU := Lib.hid hU
        have hA : Hid (Below W1.heap.size W1 (W1.alloc (.cells #[Value.string U] 9))) := (Below.refl _ _).alloc (Nat.le_refl _) _
        have OA : Hid (OwnS (W1.alloc (.cells #[Value.string U] 9)) w.heap.size (.slice ao ln cap) l) := KO.out.keep (fun k cs e => (hA.out.block k (Array.getElem?_eq_some_iff.1 e).1).trans e)
        have IA := Lib.hid ((hA.out.block _ (Array.getElem?_eq_some_iff.1 KI.out).1).trans KI.out)
        have BA := Lib.hid (KB.out.trans (hA.out.mono KB.out.size))
        rw [hU] at hA OA IA BA
        clear hU
        go_wp2_with ((with_reducible show wpList _ _ _ (⟨some 21, _, _, _, _, _⟩ :: _) _ _); go_must (refine wpList_append_str rfl _ _ rfl w.heap.size (.slice ao ln cap) l rfl OA.out W1.heap.size 1 (s.extract fr pos) rfl (by rw [cell_of_row _ _ 0 _ 9 (0, 0) (heap_alloc_new _ _)]; rfl) hll (by have := KB.out.size; simp; omega) ?_; intro v6 w6 o6 g6; simp only [Act.put, List.setIfInBounds_toArray, List.set_cons_zero, List.set_cons_succ]))
        have i6 := (g6.block w.heap.size (Array.getElem?_eq_some_iff.1 IA.out).1 (own_ne_iter OA.out IA.out)).trans IA.out
        have b6 := BA.out.grown g6 (by have := BA.out.size; omega) (own_ge OA.out)
        go_roundw
        case rel => exact ⟨l ++ [s.extract fr pos], pos + 1, pos + 1, by push_cast; rfl, by omega, by omega, by rw [sizes_snoc, ← HU.out, List.length_append]; have := HSZ.out; simp; omega, o6, i6, b6⟩
        case measure => rw [i6, HIT.out]; simp only; omega
      · by_cases hasc : (s[pos]'hlt).toNat < 128
        · have hn := fun ty => Lib.run_next_ascii_at (P := Tryz.prog) wr w.heap.size s pos ty hit hlt hasc
          obtain ⟨c, hc⟩ : ∃ c : Nat, c = (s[pos]'hlt).toNat := ⟨_, rfl⟩
          rw [← hc] at h58 hasc
          simp only [← hc] at hn
          have d1 : ((c : Int) == 58) = false := by simp; omega
          obtain ⟨kb, ko, ki⟩ := KP.out (pos + 1)
          clear hc hit
          go_wp2
          go_roundw
          case rel => exact ⟨l, fr, pos + 1, rfl, by omega, by omega, HSZ.out, ko, ki, kb⟩
          case measure => rw [ki, HIT.out]; simp only; omega
        · have hn := fun ty => Lib.run_next_any_at (P := Tryz.prog) wr w.heap.size s pos ty hit hlt
          obtain ⟨hdh, hdp⟩ := decode_high s pos hlt (by omega)
          have hdl := decode_le s pos
          generalize (Utf8.decode s pos).1 = c at *
          generalize (Utf8.decode s pos).2 = k at *
          have d1 : ((c : Int) == 58) = false := by simp; omega
          obtain ⟨kb, ko, ki⟩ := KP.out (pos + k)
          clear hit
          go_wp2
          go_roundw
          case rel => exact ⟨l, fr, pos + k, rfl, by omega, by omega, HSZ.out, ko, ki, kb⟩
          case measure => rw [ki, HIT.out]; simp only; omega
    · have hn := fun ty => Lib.run_next_end_at (P := Tryz.prog) wr w.heap.size s pos ty hit hlt
      have hex : (s.extract fr s.size).size = s.size - fr := by rw [ByteArray.size_extract]; omega
      have HEX := Lib.hid hex
      have hA : Hid (Below wr.heap.size wr (wr.alloc (.cells #[Value.string (s.extract fr s.size)] 9))) := (Below.refl _ _).alloc (Nat.le_refl _) _
      have OA : Hid (OwnS (wr.alloc (.cells #[Value.string (s.extract fr s.size)] 9)) w.heap.size (.slice ao ln cap) l) := HO.out.keep (fun k cs e => (hA.out.block k (Array.getElem?_eq_some_iff.1 e).1).trans e)
      have BA := Lib.hid (HB.out.trans (hA.out.mono HB.out.size))
      have hfr : (fr : Int) ≤ s.size := by omega
      clear hit hex
      go_wp2_with ((with_reducible show wpList _ _ _ (⟨some 29, _, _, _, _, _⟩ :: _) _ _); go_must (refine wpList_append_str rfl _ _ rfl w.heap.size (.slice ao ln cap) l rfl OA.out wr.heap.size 1 (s.extract fr s.size) rfl (by rw [cell_of_row _ _ 0 _ 9 (0, 0) (heap_alloc_new _ _)]; rfl) hll (by have := HB.out.size; simp; omega) ?_; intro v6 w6 o6 g6; simp only [Act.put, List.setIfInBounds_toArray, List.set_cons_zero, List.set_cons_succ]))
      go_ret
      exact ⟨v6, l ++ [s.extract fr s.size], rfl, o6, by simp, by rw [sizes_snoc, HEX.out, List.length_append]; have := HSZ.out; simp; omega, BA.out.grown g6 (by have := BA.out.size; omega) (own_ge OA.out)⟩
end Go.Proofs.YtkgbldkjpohinaaGreatDoor
