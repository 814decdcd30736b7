/- The walk of ProcShares. -/
import Derived.Test.YtmphnoabkmoafaaDoorSharesL
import Derived.Test.YtmphnoabkmoafaaDoorOps
import Derived.Test.YtmphnoabkmoafaaDoorBitsL
import Derived.Deep.DeepCutAuto
import Derived.Deep.CutBlock
namespace Go.Proofs.YtmphnoabkmoafaaDoor
open Go.RowKit Go.Maps
set_option linter.unusedVariables false
theorem forkErr_ok {L : List PR} {id : ByteArray} {sh : Int} (h : forkErr L id sh = 0) : ∃ p, get L id = some p ∧ p.exited = false ∧ 0 ≤ sh ∧ sh < p.share ∧ p.forks < 9 ∧ id.size < 15 := by
  unfold forkErr at h
  split at h
  · cases h
  · rename_i p hg
    refine ⟨p, hg, ?_⟩
    split at h
    · cases h
    · rename_i hx
      split at h
      · cases h
      · split at h
        · cases h
        · exact ⟨by simpa using hx, by omega, by omega, by omega, by omega⟩
theorem exitErr_ok {L : List PR} {id : ByteArray} (h : exitErr L id = 0) : ∃ p, get L id = some p ∧ p.exited = false ∧ id ≠ oneB := by
  unfold exitErr at h
  split at h
  · cases h
  · rename_i p hg
    refine ⟨p, hg, ?_⟩
    split at h
    · cases h
    · rename_i hx
      split at h
      · cases h
      · rename_i h1
        exact ⟨by simpa using hx, h1⟩
theorem ofCode_ok {L : List PR} {id : ByteArray} (h : ofCode L id = 0) : ∃ p, get L id = some p ∧ p.exited = false := by
  unfold ofCode at h
  split at h
  · cases h
  · rename_i p hg
    refine ⟨p, hg, ?_⟩
    split at h
    · cases h
    · rename_i hx; simpa using hx
theorem ownsS_lt {w : World} {B : Nat} {v : Value} {l : List ByteArray} (h : OwnS w B v l) {k : Nat} (hk : v.ownBlock = some k) : k < w.heap.size := by
  obtain ⟨h0, ⟨e, _⟩ | ⟨g, cap, cur, e1, e2, e3, r⟩⟩ := h
  · rw [e] at hk; cases hk
  · rw [e1] at hk
    have : g = k := by simpa [Value.ownBlock] using hk
    subst this
    exact (Array.getElem?_eq_some_iff.1 e3).1
theorem wpList_append_str_at {w : World} {ops : Array Oper} {rest : List Oper} {o : Oper} {a : Act} {Q : Exit → Act → World → Prop} (hgd : o.guard = none) (s x : Operand)
    (ho : o.op = .call { callee := .builtin .append, args := #[s, x], argTypes := #[27, 27] })
    (B : Nat) (v : Value) (l : List ByteArray) (hs : a.eval s = v) (hown : OwnS w B v l) (b c : Nat) (u : ByteArray) (hx : a.eval x = .slice (some ⟨b, 0, none⟩) 1 c) (hu : w.cell? ⟨b, 0, none⟩ = some (.string u))
    (hl : l.length < 1000000) (hB : B ≤ w.heap.size)
    (h : ∀ v' w', OwnS w' B v' (l ++ [u]) → w.grownBy w' v.ownBlock → (v'.ownBlock = v.ownBlock ∨ v'.ownBlock = some w.heap.size) → wpList Tryd.prog ops Q rest (a.put o.dst v') w') : wpList Tryd.prog ops Q (o :: rest) a w := by
  obtain ⟨i, hi, hz, hsz, hby⟩ := info_parts info9
  refine wpList_append_own_at w hgd s x 27 ho B 9 i (.string ⟨#[]⟩) 1 16 und27 hi hz hsz hby rfl (by omega) v l.length (l.map Value.string) hs hown ⟨b, 0, none⟩ 1 c [.string u] hx rfl (fun j y hj => ?_) (fun y hy => ?_) (by unfold maxLen; omega) (by omega) hB (fun v' w' h1 h2 _ h4 => h v' w' ?_ h2 h4)
  · match j, hj with
    | 0, hj =>
      simp at hj
      subst hj
      simpa [Addr.add] using hu
  · rw [List.mem_singleton.1 hy]; rfl
  · unfold OwnS
    rw [List.length_append, List.map_append]
    exact h1
theorem ownsRow_keep' {w w' : World} {B : Nat} {v : Value} {l : List ByteArray} (h : OwnS w B v l) (hk : ∀ k, v.ownBlock = some k → w'.heap[k]? = w.heap[k]?) : OwnS w' B v l := by
  obtain ⟨h0, h1 | ⟨g, cap, cur, e1, e2, e3, r⟩⟩ := h
  · exact ⟨h0, .inl h1⟩
  · exact ⟨h0, .inr ⟨g, cap, cur, e1, e2, (hk g (by rw [e1]; rfl)).trans e3, r⟩⟩
theorem ownB_eq' {g n cap k : Nat} (h : (Value.slice (some ⟨g, 0, none⟩) n cap).ownBlock = some k) : k = g := by
  have : g = k := by simpa [Value.ownBlock] using h
  exact this.symm
def opCells (o : OpV) (who : ByteArray) : Array Value := #[.int .i64 o.kind, .int .i64 o.A, .string who, .string o.to, o.s, o.i, o.p, o.m]
set_option maxRecDepth 100000 in
set_option maxHeartbeats 20000000 in
theorem shares_any (share : Int) (v : Value) (n : Nat) (F : Nat → OpV) (w : World) (hb : OpsIn w v n F) :
    Calls Tryd.prog 5 #[.int .i64 share, v] w fun e w' => e = .returned (.bool true) ∧ Below w.heap.size w w' := by
  obtain ⟨ao, cap, rfl, hn, hcells⟩ := hb
  have HC := Lib.hid hcells
  clear hcells
  obtain ⟨sh, hsh⟩ : ∃ x, bits BinOp.and IntKind.i64 share 31 = x := ⟨_, rfl⟩
  have hsh0 : 0 ≤ sh ∧ sh ≤ 31 := by rw [← hsh]; exact and_small share 31 (by omega)
  obtain ⟨hsh0, hsh1⟩ := hsh0
  have X0 := Lib.hid (new_ok sh w hsh0 (by omega))
  have HI0 := Lib.hid (inv_first sh hsh0 (by omega))
  unfold ptr at X0
  go_enter Tryd.func5, Tryd.ntmps5
  go_wp2_with (first
    | (go_at_call 10; refine X0.out.mono ?_; rintro e w1 ⟨T, M, bl, rfl, t1, b1⟩; have A1 : Hid (Below w1.heap.size w1 (w1.alloc (.cells #[Value.string ⟨#[49]⟩] 9))) := (Below.refl _ _).alloc (Nat.le_refl _) _; have T1 := Lib.hid (t1.below A1.out); have B1 := Lib.hid (b1.trans (A1.out.mono b1.size)))
    | ((with_reducible show wpList _ _ _ (⟨some 36, _, _, _, _, _⟩ :: _) _ _); go_must (refine wpList_append_str rfl _ _ rfl w.heap.size _ [] rfl (OwnS.nil _ _) w1.heap.size 1 oneB rfl (by rw [cell_of_row _ _ 0 _ 9 (0, 0) (heap_alloc_new _ _)]; rfl) (by simp) (by have := b1.size; simp; omega) ?_; intro v2 w2 o2 g2; have T2 := Lib.hid (T1.out.other (own_other (OwnS.nil _ w.heap.size) g2) (by decide) (by decide) (by decide)); have B2 := Lib.hid (B1.out.trans (own_below (OwnS.nil _ w.heap.size) g2 (by have := b1.size; simp; omega))); simp only [Act.put, List.setIfInBounds_toArray, List.set_cons_zero, List.set_cons_succ])))
  have O2 := Lib.hid o2
  clear t1 b1 o2 g2 A1 T1 B1 hsh
  go_loopw [7, 8, 9, 10, 11, 12, 13, 14, 15, 16, 17, 18, 19, 20] (fun vt vi _ _ _ _ _ _ _ _ _ _ _ _ wr => ∃ (i : Nat) (th : List ByteArray) (L : List PR) (bl : ByteArray → Nat), vi = .int .i64 i ∧ i ≤ n ∧ Inv (sh + 1) th L ∧ OwnS wr w.heap.size vt th ∧ TabAt wr w.heap.size T M bl L ∧ Below w.heap.size w wr) (fun _ vi _ _ _ _ _ _ _ _ _ _ _ _ _ => n - (intOf vi).toNat)
  case atStart => exact ⟨0, [oneB], [firstP sh], bl, rfl, by omega, HI0.out, O2.out, T2.out, B2.out⟩
  case round =>
    obtain ⟨i, th, L, bl3, rfl, hi1, hI, hO, hT, hB⟩ := hrel
    by_cases hi : i < n ∧ i < 60
    · obtain ⟨hi, hi60⟩ := hi
      obtain ⟨hok, b, off, rfl, hbl, hcs⟩ := HC.out i hi
      obtain ⟨o, ho⟩ : ∃ o, o = F i := ⟨_, rfl⟩
      rw [← ho] at hok hcs
      obtain ⟨ki, Ai, wi, ti, si, ii, pi, mi⟩ := o
      obtain ⟨hwi, hti, hs0, hi0, hp0, hm0⟩ := hok
      obtain ⟨sa, sl, sc, hs0⟩ := hs0
      obtain ⟨ia, il, ic, hi0⟩ := hi0
      obtain ⟨pa, pl, pc, hp0⟩ := hp0
      obtain ⟨ma, ml, mc, hm0⟩ := hm0
      simp only at hwi hti hs0 hi0 hp0 hm0
      subst hs0 hi0 hp0 hm0
      have hcw : ∀ j, j < 8 → wr.cell? ⟨b, off + (i * 8 + j), none⟩ = (OpV.cells ⟨ki, Ai, wi, ti, .slice sa sl sc, .slice ia il ic, .slice pa pl pc, .slice ma ml mc⟩)[j]? := fun j hj => (hB.cell (p := ⟨b, off + (i * 8 + j), none⟩) hbl).trans (hcs j hj)
      have q0 : wr.cell? ⟨b, off + i * 8, none⟩ = some (.int .i64 ki) := hcw 0 (by omega)
      have q1 : wr.cell? ⟨b, off + i * 8 + 1, none⟩ = some (.int .i64 Ai) := by rw [Nat.add_assoc]; exact hcw 1 (by omega)
      have q2 : wr.cell? ⟨b, off + i * 8 + 2, none⟩ = some (.string wi) := by rw [Nat.add_assoc]; exact hcw 2 (by omega)
      have q3 : wr.cell? ⟨b, off + i * 8 + 3, none⟩ = some (.string ti) := by rw [Nat.add_assoc]; exact hcw 3 (by omega)
      have q4 : wr.cell? ⟨b, off + i * 8 + 4, none⟩ = some (.slice sa sl sc) := by rw [Nat.add_assoc]; exact hcw 4 (by omega)
      have q5 : wr.cell? ⟨b, off + i * 8 + 5, none⟩ = some (.slice ia il ic) := by rw [Nat.add_assoc]; exact hcw 5 (by omega)
      have q6 : wr.cell? ⟨b, off + i * 8 + 6, none⟩ = some (.slice pa pl pc) := by rw [Nat.add_assoc]; exact hcw 6 (by omega)
      have q7 : wr.cell? ⟨b, off + i * 8 + 7, none⟩ = some (.slice ma ml mc) := by rw [Nat.add_assoc]; exact hcw 7 (by omega)
      have HI := Lib.hid hI
      have HO := Lib.hid hO
      have HT := Lib.hid hT
      have HB := Lib.hid hB
      clear hcs hcw hI hT hB ho
      have hthl : 0 < th.length := by
        rcases th with _ | ⟨x, r⟩
        · have h1 := HI.out.total
          simp [sumT] at h1
          omega
        · simp
      obtain ⟨g, cap2, cur, rfl, hBg, hrow, hcap, hcur⟩ := hO.row hthl
      go_upto_region 11 with (fail)
      obtain ⟨ob, hob⟩ : ∃ ob, ob = wr.heap.size := ⟨_, rfl⟩
      obtain ⟨W1, hW1⟩ : ∃ W1, W1 = wr.alloc (.cells #[.int .i64 ki, .int .i64 Ai, .string wi, .string ti, .slice sa sl sc, .slice ia il ic, .slice pa pl pc, .slice ma ml mc] 51) := ⟨_, rfl⟩
      have hal : Below wr.heap.size wr W1 := by rw [hW1]; exact (Below.refl _ _).alloc (Nat.le_refl _) _
      have hrow1 : W1.heap[ob]? = some (.cells (opCells ⟨ki, Ai, wi, ti, .slice sa sl sc, .slice ia il ic, .slice pa pl pc, .slice ma ml mc⟩ wi) 51 (0, 0)) := by rw [hW1, hob]; exact heap_alloc_new wr _
      have HOB : Hid (w.heap.size ≤ ob) := by rw [hob]; exact HB.out.size
      have hgob : Hid (g ≠ ob) := by have := (Array.getElem?_eq_some_iff.1 hrow).1; show g ≠ ob; omega
      rw [← hW1, ← hob]
      have T1 := Lib.hid (HT.out.below hal)
      have B1 := Lib.hid (HB.out.trans (hal.mono HB.out.size))
      have O1 := Lib.hid (HO.out.still (Still.of_below hal))
      have G1 := Lib.hid (Still.of_below hal _ _ _ _ hrow (by decide))
      have R1 := Lib.hid hrow1
      have c1 : W1.cell? ⟨ob, 1, none⟩ = some (.int .i64 Ai) := by rw [cell_of_row W1 ob 1 _ 51 (0, 0) hrow1]; rfl
      have c2 : W1.cell? ⟨ob, 2, none⟩ = some (.string wi) := by rw [cell_of_row W1 ob 2 _ 51 (0, 0) hrow1]; rfl
      have f2 : W1.frozen? ⟨ob, 2, none⟩ = false := frozen_of_row W1 ob 2 _ 51 hrow1
      have HCU := Lib.hid hcur
      have HCAP := Lib.hid hcap
      have hthp : 0 < (th.length : Int) := by omega
      obtain ⟨x, hx⟩ : ∃ x, bits BinOp.and IntKind.i64 ki 3 = x := ⟨_, rfl⟩
      have hx01 : 0 ≤ x ∧ x ≤ 3 := by rw [← hx]; exact and_small ki 3 (by omega)
      obtain ⟨hx0, hx3⟩ := hx01
      obtain ⟨y, hy⟩ : ∃ y, bits BinOp.and IntKind.i64 (Ai / 16) 7 = y := ⟨_, rfl⟩
      have hy01 : 0 ≤ y ∧ y ≤ 7 := by rw [← hy]; exact and_small (Ai / 16) 7 (by omega)
      obtain ⟨hy0, hy7⟩ := hy01
      clear hW1 hob hal hrow1 hrow hcur hcap q0 q1 q2 q3 q4 q5 q6 q7 hO HO HT HB
      by_cases hA : 0 ≤ Ai
      · obtain ⟨k, hk, hkl⟩ : ∃ k : Nat, Ai.tmod (th.length : Int) = (k : Int) ∧ k < th.length := by
          refine ⟨(Ai.tmod (th.length : Int)).toNat, ?_, ?_⟩
          · have := Int.tmod_nonneg (th.length : Int) hA; omega
          · have h1 := Int.tmod_lt_of_pos Ai hthp
            have h2 := Int.tmod_nonneg (th.length : Int) hA
            omega
        obtain ⟨who, hwhoe⟩ : ∃ s, s = th[k] := ⟨_, rfl⟩
        have zc : W1.cell? ⟨g, k, none⟩ = some (.string who) := by rw [cell_of_row W1 g k _ 9 (0, 0) G1.out, hwhoe]; exact HCU.out k hkl
        have hwho : who.size ≤ maxLen := by
          obtain ⟨p, hp, e, _⟩ := HI.out.look (x := who) (by rw [hwhoe]; exact List.getElem_mem hkl)
          have := (HI.out.fine p hp).id1
          rw [e] at this
          unfold maxLen
          omega
        clear hwhoe
        go_upto_region 13 with (fail)
        obtain ⟨W2, hW2⟩ : ∃ W2, W2 = W1.setCell ⟨ob, 2, none⟩ (.string who) := ⟨_, rfl⟩
        have hoth : ∀ q, q ≠ ob → W2.heap[q]? = W1.heap[q]? := fun q hq => by rw [hW2]; exact heap_setCell_other W1 ⟨ob, 2, none⟩ q _ (by simpa using hq)
        have R2 : Hid (W2.heap[ob]? = some (.cells (opCells ⟨ki, Ai, wi, ti, .slice sa sl sc, .slice ia il ic, .slice pa pl pc, .slice ma ml mc⟩ who) 51 (0, 0))) := by show _ = _; rw [hW2, heap_setCell_same W1 ob 2 _ 51 _ R1.out]; rfl
        have T2 : Hid (TabAt W2 w.heap.size T M bl3 L) := T1.out.other (t := 51) (fun q hq hne => hoth q (by rintro rfl; exact hne _ R1.out)) (by decide) (by decide) (by decide)
        have O2 : Hid (OwnS W2 w.heap.size (.slice (some ⟨g, 0, none⟩) th.length cap2) th) := ownsRow_keep' O1.out (fun q hq => hoth q (by rw [ownB_eq' hq]; exact hgob.out))
        have B2 : Hid (Below w.heap.size w W2) := by show Below _ _ _; rw [hW2]; exact B1.out.setCell HOB.out _
        rw [← hW2]
        clear hW2 hoth zc c1 c2 f2 T1 O1 B1 R1 hk hkl
        have c0 : W2.cell? ⟨ob, 0, none⟩ = some (.int .i64 ki) := by rw [cell_of_row W2 ob 0 _ 51 (0, 0) R2.out]; rfl
        have c1 : W2.cell? ⟨ob, 1, none⟩ = some (.int .i64 Ai) := by rw [cell_of_row W2 ob 1 _ 51 (0, 0) R2.out]; rfl
        have c2 : W2.cell? ⟨ob, 2, none⟩ = some (.string who) := by rw [cell_of_row W2 ob 2 _ 51 (0, 0) R2.out]; rfl
        obtain ⟨VV, hVV⟩ : ∃ V, V = Value.slice (some ⟨g, 0, none⟩) th.length cap2 := ⟨_, rfl⟩
        rw [← hVV] at O2
        rw [← hVV]
        clear hVV
        have hLl : L.length < 1000000 := by have := HI.out.len; omega
        have HF := Lib.hid HI.out.fine
        have hxc : x = 0 ∨ x = 1 ∨ x = 2 ∨ x = 3 := by omega
        clear hx0 hx3
        go_upto_block 2 with (fail)
        go_cut [7, 10, 11, 12, 13, 14, 15, 16] (fun v7 v10 v11 v12 v13 v14 v15 v16 wx => ∃ (th' : List ByteArray) (L' : List PR) (bl' : ByteArray → Nat), Inv (sh + 1) th' L' ∧ OwnS wx w.heap.size v7 th' ∧ TabAt wx w.heap.size T M bl' L' ∧ Below w.heap.size w wx)
        case first =>
          obtain rfl | rfl | rfl | rfl := hxc
          · by_cases hfe : forkErr L who y = 0
            · obtain ⟨p, hg, hxp, hs0, hs1, hf9, h15⟩ := forkErr_ok hfe
              obtain ⟨hpL, hpid⟩ := get_mem hg
              have K1 : Hid (Calls Tryd.prog 13 #[.pointer (some ⟨T, 0, none⟩), .string who, .int .i64 y] W2 fun e w' => ∃ bl', e = .returned (.tuple #[.string (childId who (p.forks + 1)), .int .i64 0]) ∧ TabAt w' w.heap.size T M bl' (putP (child p y) (delP (childId who (p.forks + 1)) (updP (parentP p y) L))) ∧ Bel w.heap.size W2 w') := fork_ok w.heap.size T M bl3 L who y W2 p T2.out (HF.out p hpL) hg hxp hs0 hs1 hf9 h15 hLl
              have hIn := HI.out.fork hpL hs0 hs1 hf9 (by rw [hpid]; exact h15)
              rw [hpid] at hIn
              obtain ⟨cid, hcid⟩ : ∃ c, c = childId who (p.forks + 1) := ⟨_, rfl⟩
              rw [← hcid] at K1 hIn
              obtain ⟨L', hL'⟩ : ∃ L', L' = putP (child p y) (delP cid (updP (parentP p y) L)) := ⟨_, rfl⟩
              rw [← hL'] at K1 hIn
              have IZ := Lib.hid hIn
              have hth6 : th.length < 1000000 := by have := HI.out.perm.length_eq; rw [List.length_map] at this; omega
              clear hIn hL' hcid hg hxp hfe hpL hpid hs0 hs1 hf9 h15
              go_wp2_with (first
                | (go_at_call 13; refine K1.out.mono ?_; rintro e w3 ⟨bl4, rfl, t3, b3⟩; have A3 : Hid (Below w3.heap.size w3 (w3.alloc (.cells #[Value.string cid] 9))) := (Below.refl _ _).alloc (Nat.le_refl _) _; have T3 := Lib.hid (t3.below A3.out); have B3' := Lib.hid (B2.out.trans b3.toBelow); have B3 := Lib.hid (B3'.out.trans (A3.out.mono B3'.out.size)); have O3 := Lib.hid ((O2.out.still b3.still).still (Still.of_below A3.out)))
                | ((with_reducible show wpList _ _ _ (⟨some 120, _, _, _, _, _⟩ :: _) _ _); go_must (refine wpList_append_str rfl _ _ rfl w.heap.size _ th rfl O3.out w3.heap.size 1 cid rfl (by rw [cell_of_row _ _ 0 _ 9 (0, 0) (heap_alloc_new _ _)]; rfl) hth6 (by have := B3'.out.size; simp; omega) ?_; intro v4 w4 o4 g4; have TZ := Lib.hid (T3.out.other (own_other O3.out g4) (by decide) (by decide) (by decide)); have BZ := Lib.hid (B3.out.trans (own_below O3.out g4 (by have := B3'.out.size; simp; omega))); simp only [Act.put, List.setIfInBounds_toArray, List.set_cons_zero, List.set_cons_succ])))
              have OZ := Lib.hid o4
              clear K1 t3 b3 o4 g4 T3 B3 O3 A3 B3' c0 c1 c2
              go_meet
              case rel => exact ⟨_, _, _, IZ.out, OZ.out, TZ.out, BZ.out⟩
            · have K1 : Hid (Calls Tryd.prog 13 #[.pointer (some ⟨T, 0, none⟩), .string who, .int .i64 y] W2 fun e w' => e = .returned (.tuple #[.string ⟨#[]⟩, .int .i64 (forkErr L who y)]) ∧ w' = W2) := fork_no w.heap.size T M bl3 L who y W2 T2.out HF.out hwho hfe
              obtain ⟨er, her⟩ : ∃ er, er = forkErr L who y := ⟨_, rfl⟩
              rw [← her] at K1 hfe
              have dn : (er == 0) = false := by simpa using hfe
              clear her hfe
              go_wp2_with (go_at_call 13; refine K1.out.mono ?_; rintro e w3 ⟨rfl, hw3⟩; rw [hw3])
              have IZ := HI
              have OZ := O2
              have TZ := T2
              have BZ := B2
              clear c0 c1 c2 K1
              go_meet
              case rel => exact ⟨_, _, _, IZ.out, OZ.out, TZ.out, BZ.out⟩
          · by_cases hfe : forkErr L who y = 0
            · obtain ⟨p, hg, hxp, hs0, hs1, hf9, h15⟩ := forkErr_ok hfe
              obtain ⟨hpL, hpid⟩ := get_mem hg
              have K1 : Hid (Calls Tryd.prog 13 #[.pointer (some ⟨T, 0, none⟩), .string who, .int .i64 y] W2 fun e w' => ∃ bl', e = .returned (.tuple #[.string (childId who (p.forks + 1)), .int .i64 0]) ∧ TabAt w' w.heap.size T M bl' (putP (child p y) (delP (childId who (p.forks + 1)) (updP (parentP p y) L))) ∧ Bel w.heap.size W2 w') := fork_ok w.heap.size T M bl3 L who y W2 p T2.out (HF.out p hpL) hg hxp hs0 hs1 hf9 h15 hLl
              have hIn := HI.out.fork hpL hs0 hs1 hf9 (by rw [hpid]; exact h15)
              rw [hpid] at hIn
              obtain ⟨cid, hcid⟩ : ∃ c, c = childId who (p.forks + 1) := ⟨_, rfl⟩
              rw [← hcid] at K1 hIn
              obtain ⟨L', hL'⟩ : ∃ L', L' = putP (child p y) (delP cid (updP (parentP p y) L)) := ⟨_, rfl⟩
              rw [← hL'] at K1 hIn
              have IZ := Lib.hid hIn
              have hth6 : th.length < 1000000 := by have := HI.out.perm.length_eq; rw [List.length_map] at this; omega
              clear hIn hL' hcid hg hxp hfe hpL hpid hs0 hs1 hf9 h15
              go_wp2_with (first
                | (go_at_call 13; refine K1.out.mono ?_; rintro e w3 ⟨bl4, rfl, t3, b3⟩; have A3 : Hid (Below w3.heap.size w3 (w3.alloc (.cells #[Value.string cid] 9))) := (Below.refl _ _).alloc (Nat.le_refl _) _; have T3 := Lib.hid (t3.below A3.out); have B3' := Lib.hid (B2.out.trans b3.toBelow); have B3 := Lib.hid (B3'.out.trans (A3.out.mono B3'.out.size)); have O3 := Lib.hid ((O2.out.still b3.still).still (Still.of_below A3.out)))
                | ((with_reducible show wpList _ _ _ (⟨some 120, _, _, _, _, _⟩ :: _) _ _); go_must (refine wpList_append_str rfl _ _ rfl w.heap.size _ th rfl O3.out w3.heap.size 1 cid rfl (by rw [cell_of_row _ _ 0 _ 9 (0, 0) (heap_alloc_new _ _)]; rfl) hth6 (by have := B3'.out.size; simp; omega) ?_; intro v4 w4 o4 g4; have TZ := Lib.hid (T3.out.other (own_other O3.out g4) (by decide) (by decide) (by decide)); have BZ := Lib.hid (B3.out.trans (own_below O3.out g4 (by have := B3'.out.size; simp; omega))); simp only [Act.put, List.setIfInBounds_toArray, List.set_cons_zero, List.set_cons_succ])))
              have OZ := Lib.hid o4
              clear K1 t3 b3 o4 g4 T3 B3 O3 A3 B3' c0 c1 c2
              go_meet
              case rel => exact ⟨_, _, _, IZ.out, OZ.out, TZ.out, BZ.out⟩
            · have K1 : Hid (Calls Tryd.prog 13 #[.pointer (some ⟨T, 0, none⟩), .string who, .int .i64 y] W2 fun e w' => e = .returned (.tuple #[.string ⟨#[]⟩, .int .i64 (forkErr L who y)]) ∧ w' = W2) := fork_no w.heap.size T M bl3 L who y W2 T2.out HF.out hwho hfe
              obtain ⟨er, her⟩ : ∃ er, er = forkErr L who y := ⟨_, rfl⟩
              rw [← her] at K1 hfe
              have dn : (er == 0) = false := by simpa using hfe
              clear her hfe
              go_wp2_with (go_at_call 13; refine K1.out.mono ?_; rintro e w3 ⟨rfl, hw3⟩; rw [hw3])
              have IZ := HI
              have OZ := O2
              have TZ := T2
              have BZ := B2
              clear c0 c1 c2 K1
              go_meet
              case rel => exact ⟨_, _, _, IZ.out, OZ.out, TZ.out, BZ.out⟩
          · have K1 : Hid (Calls Tryd.prog 16 #[.pointer (some ⟨T, 0, none⟩), .string who, .int .i64 i] W2 fun e w' => ∃ code L', e = .returned (.int .i64 code) ∧ TabAt w' w.heap.size T M bl3 L' ∧ Inv (sh + 1) th L' ∧ Bel w.heap.size W2 w') := by
              by_cases hee : exitErr L who = 0
              · obtain ⟨p, hg, hxp, h1⟩ := exitErr_ok hee
                refine (exit_ok w.heap.size T M bl3 L who i W2 p T2.out hwho hg hxp h1).mono ?_
                rintro e w' ⟨rfl, t, hb⟩
                exact ⟨0, _, rfl, t, HI.out.exit (get_mem hg).1 i (childOf who), hb⟩
              · refine (exit_no w.heap.size T M bl3 L who i W2 T2.out hwho hee).mono ?_
                rintro e w' ⟨rfl, rfl⟩
                exact ⟨_, L, rfl, T2.out, HI.out, Bel.refl _ _⟩
            go_wp2_with (go_at_call 16; refine K1.out.mono ?_; rintro e w3 ⟨code, L', rfl, t3, i3, b3⟩)
            have IZ := Lib.hid i3
            have OZ := Lib.hid (O2.out.still b3.still)
            have TZ := Lib.hid t3
            have BZ := Lib.hid (B2.out.trans b3.toBelow)
            clear c0 c1 c2 K1 t3 i3 b3
            go_meet
            case rel => exact ⟨_, _, _, IZ.out, OZ.out, TZ.out, BZ.out⟩
          · by_cases hoc : ofCode L who = 0
            · obtain ⟨p, hg, hxp⟩ := ofCode_ok hoc
              obtain ⟨hpL, hpid⟩ := get_mem hg
              have hWL := wait_live w.heap.size T M bl3 L who W2 p T2.out HF.out hg hxp (by omega)
              cases hwf : waitFind L who p with
              | none =>
                have K1 : Hid (∃ code, (code == 0) = false ∧ Calls Tryd.prog 17 #[.pointer (some ⟨T, 0, none⟩), .string who] W2 fun e w' => e = .returned (.tuple #[.string ⟨#[]⟩, .int .i64 0, .int .i64 code]) ∧ TabAt w' w.heap.size T M bl3 L ∧ Bel w.heap.size W2 w') := by
                  refine ⟨if L.any (childOf who) then 63 else 61, by split <;> rfl, hWL.mono ?_⟩
                  rintro e w' ⟨⟨c, hc, rfl, t⟩ | ⟨hc, rfl, t⟩, hb⟩
                  · rw [hwf] at hc; cases hc
                  · exact ⟨rfl, t, hb⟩
                obtain ⟨code, dn, K1⟩ := K1.out
                have K2 := Lib.hid K1
                clear K1 hWL hwf hg hxp hpL hpid hoc
                go_wp2_with (go_at_call 17; refine K2.out.mono ?_; rintro e w3 ⟨rfl, t3, b3⟩)
                have IZ := HI
                have OZ := Lib.hid (O2.out.still b3.still)
                have TZ := Lib.hid t3
                have BZ := Lib.hid (B2.out.trans b3.toBelow)
                clear c0 c1 c2 K2 t3 b3
                go_meet
                case rel => exact ⟨_, _, _, IZ.out, OZ.out, TZ.out, BZ.out⟩
              | some c =>
                have hcL : c ∈ L := List.mem_of_find?_eq_some hwf
                have hct : takes who p c = true := List.find?_some hwf
                have hne : p.id ≠ c.id := fun e => by
                  have := HI.out.uniq p hpL c hcL e
                  subst this
                  unfold takes at hct
                  rw [hxp] at hct
                  simp at hct
                have hIn := HI.out.wait hpL hcL hne
                have K1 : Hid (Calls Tryd.prog 17 #[.pointer (some ⟨T, 0, none⟩), .string who] W2 fun e w' => e = .returned (.tuple #[.string c.id, .int .i64 c.status, .int .i64 0]) ∧ TabAt w' w.heap.size T M bl3 (delP c.id (updP (waitP p c) L)) ∧ Bel w.heap.size W2 w') := by
                  refine hWL.mono ?_
                  rintro e w' ⟨⟨c', hc, rfl, t⟩ | ⟨hc, rfl, t⟩, hb⟩
                  · rw [hwf] at hc; cases hc; exact ⟨rfl, t, hb⟩
                  · rw [hwf] at hc; cases hc
                obtain ⟨cid, hcid⟩ : ∃ s, s = c.id := ⟨_, rfl⟩
                obtain ⟨cst, hcst⟩ : ∃ s, s = c.status := ⟨_, rfl⟩
                rw [← hcid] at K1 hIn
                rw [← hcst] at K1
                obtain ⟨L', hL'⟩ : ∃ L', L' = delP cid (updP (waitP p c) L) := ⟨_, rfl⟩
                rw [← hL'] at K1 hIn
                have IZ := Lib.hid hIn
                clear hIn hL' hcid hcst hWL hwf hg hxp hpL hpid hoc hcL hct hne
                go_wp2_with (go_at_call 17; refine K1.out.mono ?_; rintro e w3 ⟨rfl, t3, b3⟩)
                have O3 := Lib.hid (O2.out.still b3.still)
                have T3 := Lib.hid t3
                have B3 := Lib.hid (B2.out.trans b3.toBelow)
                clear c0 c1 c2 K1 t3 b3
                go_loopw [15, 16] (fun vl vk wr => ∃ k : Nat, vk = .int .i64 k ∧ k ≤ th.length ∧ OwnS wr w.heap.size VV th ∧ OwnS wr w.heap.size vl ((th.take k).filter fun x => !decide (x = cid)) ∧ (∀ q, vl.ownBlock = some q → VV.ownBlock ≠ some q) ∧ TabAt wr w.heap.size T M bl3 L' ∧ Below w.heap.size w wr) (fun _ vk _ => th.length - (intOf vk).toNat)
                case atStart => exact ⟨0, rfl, by omega, O3.out, OwnS.nil _ _, (fun q e => by cases e), T3.out, B3.out⟩
                case round =>
                  obtain ⟨k, rfl, hk1, hO, hOl, hap, hT, hB⟩ := hrel
                  obtain ⟨lk, hlk⟩ : ∃ lk, lk = th.length := ⟨_, rfl⟩
                  have HLK := Lib.hid hlk
                  have hlk3 : lk ≤ 1000 := by have h1 := HI.out.perm.length_eq; have h2 := HI.out.len; rw [List.length_map] at h1; omega
                  have HOO := Lib.hid hO
                  have HOL := Lib.hid hOl
                  have HTT := Lib.hid hT
                  have HBB := Lib.hid hB
                  have HAP := Lib.hid hap
                  by_cases hk : k < th.length
                  · obtain ⟨gk, capk, hvk, _, _, zk⟩ := hO.cell hk
                    obtain ⟨idk, hidk⟩ : ∃ id, id = th[k] := ⟨_, rfl⟩
                    rw [← hidk] at zk
                    have hfl : (th.take (k + 1)).filter (fun x => !decide (x = cid)) = (th.take k).filter (fun x => !decide (x = cid)) ++ (if idk = cid then [] else [idk]) := by
                      rw [List.take_succ_eq_append_getElem hk, List.filter_append, ← hidk]
                      congr 1
                      by_cases e : idk = cid <;> simp [e]
                    have HFL := Lib.hid hfl
                    have hlen5 : ((th.take k).filter (fun x => !decide (x = cid))).length < 1000000 := by
                      have := List.length_filter_le (fun x => !decide (x = cid)) (th.take k)
                      rw [List.length_take] at this
                      omega
                    rw [← hlk] at hk hvk
                    have hVb : Hid (∀ q, VV.ownBlock = some q → q < wr.heap.size) := fun q e => (ownsS_lt HOO.out e)
                    subst hvk
                    clear hO hOl hT hB hap hlk hidk hfl
                    by_cases e : idk = cid
                    · have d1 : (idk.toList == cid.toList) = true := by rw [str_eq]; simpa using e
                      go_wp2
                      go_roundw
                      case rel => exact ⟨k + 1, by push_cast; rfl, by have := HLK.out; omega, HOO.out, by (rw [HFL.out, if_pos e, List.append_nil]; exact HOL.out), HAP.out, HTT.out, HBB.out⟩
                      case measure => have := HLK.out; simp [intOf]; omega
                    · have d1 : (idk.toList == cid.toList) = false := by rw [str_eq]; simpa using e
                      have A5 : Hid (Below wr.heap.size wr (wr.alloc (.cells #[Value.string idk] 9))) := (Below.refl _ _).alloc (Nat.le_refl _) _
                      have O5 := Lib.hid (HOL.out.still (Still.of_below A5.out))
                      go_wp2_with ((with_reducible show wpList _ _ _ (⟨some 99, _, _, _, _, _⟩ :: _) _ _); go_must (refine wpList_append_str_at rfl _ _ rfl w.heap.size _ _ rfl O5.out wr.heap.size 1 idk rfl (by rw [cell_of_row _ _ 0 _ 9 (0, 0) (heap_alloc_new _ _)]; rfl) hlen5 (by have := HBB.out.size; simp; omega) ?_; intro v6 w6 o6 g6 hat6; simp only [Act.put, List.setIfInBounds_toArray, List.set_cons_zero, List.set_cons_succ]))
                      go_roundw
                      case rel =>
                        have hap2 : ∀ q, v6.ownBlock = some q → (Value.slice (some ⟨gk, 0, none⟩) lk capk).ownBlock ≠ some q := fun q e1 e2 => by
                          rcases hat6 with h6 | h6
                          · exact HAP.out q (h6.symm.trans e1) e2
                          · have h7 := hVb.out q e2
                            rw [h6] at e1
                            simp at e1
                            omega
                        refine ⟨k + 1, by push_cast; rfl, by have := HLK.out; omega, ?_, by (rw [HFL.out, if_neg e]; exact o6), hap2, (HTT.out.below A5.out).other (own_other O5.out g6) (by decide) (by decide) (by decide), (HBB.out.trans (A5.out.mono HBB.out.size)).trans (own_below O5.out g6 (by have := HBB.out.size; simp; omega))⟩
                        refine ownsRow_keep' (HOO.out.still (Still.of_below A5.out)) (fun q e2 => g6.block q (by have := hVb.out q e2; simp; omega) (fun e3 => HAP.out q e3.symm e2))
                      case measure => have := HLK.out; simp [intOf]; omega
                  · obtain rfl : k = th.length := by omega
                    rw [List.take_length] at hOl
                    obtain ⟨aoz, capz, hvz⟩ := hO.shape
                    have OZ := Lib.hid hOl
                    rw [← hlk] at hvz
                    rw [← hlk]
                    obtain ⟨vl2, hvl2⟩ : ∃ v : Value, v = u15 := ⟨_, rfl⟩
                    subst hvz
                    have TZ := HTT
                    have BZ := HBB
                    clear hO hOl hT hB hap hk hk1 HOO HOL HAP HTT HBB hvl2
                    go_wp2
                    go_meet
                    case rel => exact ⟨_, _, _, IZ.out, OZ.out, TZ.out, BZ.out⟩
            · have K1 : Hid (Calls Tryd.prog 17 #[.pointer (some ⟨T, 0, none⟩), .string who] W2 fun e w' => e = .returned (.tuple #[.string ⟨#[]⟩, .int .i64 0, .int .i64 (ofCode L who)]) ∧ w' = W2) := wait_no w.heap.size T M bl3 L who W2 T2.out hwho hoc
              obtain ⟨code, hcode⟩ : ∃ code, code = ofCode L who := ⟨_, rfl⟩
              rw [← hcode] at K1 hoc
              have dn : (code == 0) = false := by simpa using hoc
              clear hcode hoc
              go_wp2_with (go_at_call 17; refine K1.out.mono ?_; rintro e w3 ⟨rfl, hw3⟩; rw [hw3])
              have IZ := HI
              have OZ := O2
              have TZ := T2
              have BZ := B2
              clear c0 c1 c2 K1
              go_meet
              case rel => exact ⟨_, _, _, IZ.out, OZ.out, TZ.out, BZ.out⟩
        case rest =>
          obtain ⟨th', L', bl', hIc, hOc, hTc, hBc⟩ := hcut
          have IZ := Lib.hid hIc
          have OZ := Lib.hid hOc
          have TZ := Lib.hid hTc
          have BZ := Lib.hid hBc
          clear hIc hOc hTc hBc
          go_wp2
          go_loopw [17, 18, 19, 20] (fun vs vk _ _ wr => ∃ k : Nat, vk = .int .i64 k ∧ k ≤ (th').length ∧ vs = .int .i64 (sumT (L') ((th').take k)) ∧ OwnS wr w.heap.size u7 (th') ∧ TabAt wr w.heap.size T M bl' (L') ∧ Below w.heap.size w wr) (fun _ vk _ _ _ => (th').length - (intOf vk).toNat)
          case atStart => exact ⟨0, rfl, by omega, rfl, OZ.out, TZ.out, BZ.out⟩
          case round =>
            obtain ⟨k, rfl, hk1, rfl, hO, hT, hB⟩ := hrel
            have htot := IZ.out.total
            have hpt := IZ.out.part k
            by_cases hk : k < (th').length
            · obtain ⟨p, hpL, hpid, hpg⟩ := IZ.out.look (List.getElem_mem hk)
              obtain ⟨gk, capk, hvk, _, _, zk⟩ := hO.cell hk
              have hstep := sumT_step hk hpg
              have hpt1 := IZ.out.part (k + 1)
              rw [hstep] at hpt1
              have hFp := IZ.out.fine p hpL
              have hps := hFp.s0
              have hps1 := hFp.s1
              obtain ⟨idk, hidk⟩ : ∃ id, id = (th')[k] := ⟨_, rfl⟩
              rw [← hidk] at zk hpg hpid
              have hszk : idk.size ≤ maxLen := by have := hFp.id1; rw [hpid] at this; unfold maxLen; omega
              have KI : Hid (Calls Tryd.prog 18 #[.pointer (some ⟨T, 0, none⟩), .string idk] wr fun e w' => ∃ x y z v, e = .returned (.tuple #[infoV p x y z v, .int .i64 0]) ∧ IntsAt w' x p.S ∧ IntsAt w' y p.I ∧ IntsAt w' z p.Plus ∧ IntsAt w' v p.Minus ∧ TabAt w' w.heap.size T M bl' (L') ∧ Bel w.heap.size wr w') := info_some w.heap.size T M bl' (L') idk wr p hT hszk hFp hpg
              obtain ⟨S, hS⟩ : ∃ S, S = sumT (L') ((th').take k) := ⟨_, rfl⟩
              rw [← hS] at hstep hpt hpt1 ⊢
              obtain ⟨ps, hpse⟩ : ∃ ps, ps = p.share := ⟨_, rfl⟩
              have HPS := Lib.hid hpse
              rw [← hpse] at hstep hpt1 hps hps1
              have HST := Lib.hid hstep
              have HOO := Lib.hid hO
              have HBB := Lib.hid hB
              obtain ⟨lk, hlk⟩ : ∃ lk, lk = (th').length := ⟨_, rfl⟩
              have HLK := Lib.hid hlk
              have hlk3 : lk ≤ 1000 := by have h1 := IZ.out.perm.length_eq; have h2 := IZ.out.len; rw [List.length_map] at h1; omega
              rw [← hlk] at hk hvk
              subst hvk
              unfold infoV at KI
              rw [← HPS.out] at KI
              clear hstep hO hT hB hS hpse hidk hpg hpid hpL hlk htot
              go_wp2_with (go_at_call 18; refine KI.out.mono ?_; rintro e w6 ⟨x6, y6, z6, v6, rfl, ix, iy, iz, iv, t6, b6⟩; obtain ⟨_, _, _, rfl⟩ := ix.shape3; obtain ⟨_, _, _, rfl⟩ := iy.shape3; obtain ⟨_, _, _, rfl⟩ := iz.shape3; obtain ⟨_, _, _, rfl⟩ := iv.shape3)
              go_roundw
              case rel =>
                have hal6 := fun o : Obj => ((Below.refl w6.heap.size w6).alloc (Nat.le_refl _) o)
                have hb6 := HBB.out.trans b6.toBelow
                exact ⟨k + 1, by push_cast; rfl, by have := HLK.out; omega, by rw [HST.out]; congr 1; omega, (HOO.out.still b6.still).still (Still.of_below (hal6 _)), t6.below (hal6 _), hb6.trans ((hal6 _).mono hb6.size)⟩
              case measure => have := HLK.out; simp [intOf]; omega
            · obtain rfl : k = (th').length := by omega
              rw [List.take_length, htot]
              obtain ⟨aoz, capz, hvz⟩ := hO.shape
              have HOO := Lib.hid hO
              have HTT := Lib.hid hT
              have HBB := Lib.hid hB
              obtain ⟨lk, hlk⟩ : ∃ lk, lk = (th').length := ⟨_, rfl⟩
              rw [← hlk] at hvz ⊢
              clear hO hT hB htot hpt hlk hk hk1
              subst hvz
              go_wp2
              go_roundw
              case rel => exact ⟨i + 1, (th'), (L'), bl', by push_cast; rfl, by omega, IZ.out, HOO.out, HTT.out, HBB.out⟩
              case measure => simp [intOf]; omega
      · go_upto_region 13 with (fail)
        obtain ⟨who, hwhoe⟩ : ∃ s, s = wi := ⟨_, rfl⟩
        have hwho : who.size ≤ maxLen := by rw [hwhoe]; exact hwi
        obtain ⟨W2, hW2⟩ : ∃ W2, W2 = W1 := ⟨_, rfl⟩
        have R2 : Hid (W2.heap[ob]? = some (.cells (opCells ⟨ki, Ai, wi, ti, .slice sa sl sc, .slice ia il ic, .slice pa pl pc, .slice ma ml mc⟩ who) 51 (0, 0))) := by rw [hW2, hwhoe]; exact R1.out
        have T2 : Hid (TabAt W2 w.heap.size T M bl3 L) := by rw [hW2]; exact T1.out
        have O2 : Hid (OwnS W2 w.heap.size (.slice (some ⟨g, 0, none⟩) th.length cap2) th) := by rw [hW2]; exact O1.out
        have B2 : Hid (Below w.heap.size w W2) := by rw [hW2]; exact B1.out
        rw [← hW2]
        clear hW2 hwhoe c1 c2 f2 T1 O1 B1 R1
        have c0 : W2.cell? ⟨ob, 0, none⟩ = some (.int .i64 ki) := by rw [cell_of_row W2 ob 0 _ 51 (0, 0) R2.out]; rfl
        have c1 : W2.cell? ⟨ob, 1, none⟩ = some (.int .i64 Ai) := by rw [cell_of_row W2 ob 1 _ 51 (0, 0) R2.out]; rfl
        have c2 : W2.cell? ⟨ob, 2, none⟩ = some (.string who) := by rw [cell_of_row W2 ob 2 _ 51 (0, 0) R2.out]; rfl
        obtain ⟨VV, hVV⟩ : ∃ V, V = Value.slice (some ⟨g, 0, none⟩) th.length cap2 := ⟨_, rfl⟩
        rw [← hVV] at O2
        rw [← hVV]
        clear hVV
        have hLl : L.length < 1000000 := by have := HI.out.len; omega
        have HF := Lib.hid HI.out.fine
        have hxc : x = 0 ∨ x = 1 ∨ x = 2 ∨ x = 3 := by omega
        clear hx0 hx3
        go_upto_block 2 with (fail)
        go_cut [7, 10, 11, 12, 13, 14, 15, 16] (fun v7 v10 v11 v12 v13 v14 v15 v16 wx => ∃ (th' : List ByteArray) (L' : List PR) (bl' : ByteArray → Nat), Inv (sh + 1) th' L' ∧ OwnS wx w.heap.size v7 th' ∧ TabAt wx w.heap.size T M bl' L' ∧ Below w.heap.size w wx)
        case first =>
          obtain rfl | rfl | rfl | rfl := hxc
          · by_cases hfe : forkErr L who y = 0
            · obtain ⟨p, hg, hxp, hs0, hs1, hf9, h15⟩ := forkErr_ok hfe
              obtain ⟨hpL, hpid⟩ := get_mem hg
              have K1 : Hid (Calls Tryd.prog 13 #[.pointer (some ⟨T, 0, none⟩), .string who, .int .i64 y] W2 fun e w' => ∃ bl', e = .returned (.tuple #[.string (childId who (p.forks + 1)), .int .i64 0]) ∧ TabAt w' w.heap.size T M bl' (putP (child p y) (delP (childId who (p.forks + 1)) (updP (parentP p y) L))) ∧ Bel w.heap.size W2 w') := fork_ok w.heap.size T M bl3 L who y W2 p T2.out (HF.out p hpL) hg hxp hs0 hs1 hf9 h15 hLl
              have hIn := HI.out.fork hpL hs0 hs1 hf9 (by rw [hpid]; exact h15)
              rw [hpid] at hIn
              obtain ⟨cid, hcid⟩ : ∃ c, c = childId who (p.forks + 1) := ⟨_, rfl⟩
              rw [← hcid] at K1 hIn
              obtain ⟨L', hL'⟩ : ∃ L', L' = putP (child p y) (delP cid (updP (parentP p y) L)) := ⟨_, rfl⟩
              rw [← hL'] at K1 hIn
              have IZ := Lib.hid hIn
              have hth6 : th.length < 1000000 := by have := HI.out.perm.length_eq; rw [List.length_map] at this; omega
              clear hIn hL' hcid hg hxp hfe hpL hpid hs0 hs1 hf9 h15
              go_wp2_with (first
                | (go_at_call 13; refine K1.out.mono ?_; rintro e w3 ⟨bl4, rfl, t3, b3⟩; have A3 : Hid (Below w3.heap.size w3 (w3.alloc (.cells #[Value.string cid] 9))) := (Below.refl _ _).alloc (Nat.le_refl _) _; have T3 := Lib.hid (t3.below A3.out); have B3' := Lib.hid (B2.out.trans b3.toBelow); have B3 := Lib.hid (B3'.out.trans (A3.out.mono B3'.out.size)); have O3 := Lib.hid ((O2.out.still b3.still).still (Still.of_below A3.out)))
                | ((with_reducible show wpList _ _ _ (⟨some 120, _, _, _, _, _⟩ :: _) _ _); go_must (refine wpList_append_str rfl _ _ rfl w.heap.size _ th rfl O3.out w3.heap.size 1 cid rfl (by rw [cell_of_row _ _ 0 _ 9 (0, 0) (heap_alloc_new _ _)]; rfl) hth6 (by have := B3'.out.size; simp; omega) ?_; intro v4 w4 o4 g4; have TZ := Lib.hid (T3.out.other (own_other O3.out g4) (by decide) (by decide) (by decide)); have BZ := Lib.hid (B3.out.trans (own_below O3.out g4 (by have := B3'.out.size; simp; omega))); simp only [Act.put, List.setIfInBounds_toArray, List.set_cons_zero, List.set_cons_succ])))
              have OZ := Lib.hid o4
              clear K1 t3 b3 o4 g4 T3 B3 O3 A3 B3' c0 c1 c2
              go_meet
              case rel => exact ⟨_, _, _, IZ.out, OZ.out, TZ.out, BZ.out⟩
            · have K1 : Hid (Calls Tryd.prog 13 #[.pointer (some ⟨T, 0, none⟩), .string who, .int .i64 y] W2 fun e w' => e = .returned (.tuple #[.string ⟨#[]⟩, .int .i64 (forkErr L who y)]) ∧ w' = W2) := fork_no w.heap.size T M bl3 L who y W2 T2.out HF.out hwho hfe
              obtain ⟨er, her⟩ : ∃ er, er = forkErr L who y := ⟨_, rfl⟩
              rw [← her] at K1 hfe
              have dn : (er == 0) = false := by simpa using hfe
              clear her hfe
              go_wp2_with (go_at_call 13; refine K1.out.mono ?_; rintro e w3 ⟨rfl, hw3⟩; rw [hw3])
              have IZ := HI
              have OZ := O2
              have TZ := T2
              have BZ := B2
              clear c0 c1 c2 K1
              go_meet
              case rel => exact ⟨_, _, _, IZ.out, OZ.out, TZ.out, BZ.out⟩
          · by_cases hfe : forkErr L who y = 0
            · obtain ⟨p, hg, hxp, hs0, hs1, hf9, h15⟩ := forkErr_ok hfe
              obtain ⟨hpL, hpid⟩ := get_mem hg
              have K1 : Hid (Calls Tryd.prog 13 #[.pointer (some ⟨T, 0, none⟩), .string who, .int .i64 y] W2 fun e w' => ∃ bl', e = .returned (.tuple #[.string (childId who (p.forks + 1)), .int .i64 0]) ∧ TabAt w' w.heap.size T M bl' (putP (child p y) (delP (childId who (p.forks + 1)) (updP (parentP p y) L))) ∧ Bel w.heap.size W2 w') := fork_ok w.heap.size T M bl3 L who y W2 p T2.out (HF.out p hpL) hg hxp hs0 hs1 hf9 h15 hLl
              have hIn := HI.out.fork hpL hs0 hs1 hf9 (by rw [hpid]; exact h15)
              rw [hpid] at hIn
              obtain ⟨cid, hcid⟩ : ∃ c, c = childId who (p.forks + 1) := ⟨_, rfl⟩
              rw [← hcid] at K1 hIn
              obtain ⟨L', hL'⟩ : ∃ L', L' = putP (child p y) (delP cid (updP (parentP p y) L)) := ⟨_, rfl⟩
              rw [← hL'] at K1 hIn
              have IZ := Lib.hid hIn
              have hth6 : th.length < 1000000 := by have := HI.out.perm.length_eq; rw [List.length_map] at this; omega
              clear hIn hL' hcid hg hxp hfe hpL hpid hs0 hs1 hf9 h15
              go_wp2_with (first
                | (go_at_call 13; refine K1.out.mono ?_; rintro e w3 ⟨bl4, rfl, t3, b3⟩; have A3 : Hid (Below w3.heap.size w3 (w3.alloc (.cells #[Value.string cid] 9))) := (Below.refl _ _).alloc (Nat.le_refl _) _; have T3 := Lib.hid (t3.below A3.out); have B3' := Lib.hid (B2.out.trans b3.toBelow); have B3 := Lib.hid (B3'.out.trans (A3.out.mono B3'.out.size)); have O3 := Lib.hid ((O2.out.still b3.still).still (Still.of_below A3.out)))
                | ((with_reducible show wpList _ _ _ (⟨some 120, _, _, _, _, _⟩ :: _) _ _); go_must (refine wpList_append_str rfl _ _ rfl w.heap.size _ th rfl O3.out w3.heap.size 1 cid rfl (by rw [cell_of_row _ _ 0 _ 9 (0, 0) (heap_alloc_new _ _)]; rfl) hth6 (by have := B3'.out.size; simp; omega) ?_; intro v4 w4 o4 g4; have TZ := Lib.hid (T3.out.other (own_other O3.out g4) (by decide) (by decide) (by decide)); have BZ := Lib.hid (B3.out.trans (own_below O3.out g4 (by have := B3'.out.size; simp; omega))); simp only [Act.put, List.setIfInBounds_toArray, List.set_cons_zero, List.set_cons_succ])))
              have OZ := Lib.hid o4
              clear K1 t3 b3 o4 g4 T3 B3 O3 A3 B3' c0 c1 c2
              go_meet
              case rel => exact ⟨_, _, _, IZ.out, OZ.out, TZ.out, BZ.out⟩
            · have K1 : Hid (Calls Tryd.prog 13 #[.pointer (some ⟨T, 0, none⟩), .string who, .int .i64 y] W2 fun e w' => e = .returned (.tuple #[.string ⟨#[]⟩, .int .i64 (forkErr L who y)]) ∧ w' = W2) := fork_no w.heap.size T M bl3 L who y W2 T2.out HF.out hwho hfe
              obtain ⟨er, her⟩ : ∃ er, er = forkErr L who y := ⟨_, rfl⟩
              rw [← her] at K1 hfe
              have dn : (er == 0) = false := by simpa using hfe
              clear her hfe
              go_wp2_with (go_at_call 13; refine K1.out.mono ?_; rintro e w3 ⟨rfl, hw3⟩; rw [hw3])
              have IZ := HI
              have OZ := O2
              have TZ := T2
              have BZ := B2
              clear c0 c1 c2 K1
              go_meet
              case rel => exact ⟨_, _, _, IZ.out, OZ.out, TZ.out, BZ.out⟩
          · have K1 : Hid (Calls Tryd.prog 16 #[.pointer (some ⟨T, 0, none⟩), .string who, .int .i64 i] W2 fun e w' => ∃ code L', e = .returned (.int .i64 code) ∧ TabAt w' w.heap.size T M bl3 L' ∧ Inv (sh + 1) th L' ∧ Bel w.heap.size W2 w') := by
              by_cases hee : exitErr L who = 0
              · obtain ⟨p, hg, hxp, h1⟩ := exitErr_ok hee
                refine (exit_ok w.heap.size T M bl3 L who i W2 p T2.out hwho hg hxp h1).mono ?_
                rintro e w' ⟨rfl, t, hb⟩
                exact ⟨0, _, rfl, t, HI.out.exit (get_mem hg).1 i (childOf who), hb⟩
              · refine (exit_no w.heap.size T M bl3 L who i W2 T2.out hwho hee).mono ?_
                rintro e w' ⟨rfl, rfl⟩
                exact ⟨_, L, rfl, T2.out, HI.out, Bel.refl _ _⟩
            go_wp2_with (go_at_call 16; refine K1.out.mono ?_; rintro e w3 ⟨code, L', rfl, t3, i3, b3⟩)
            have IZ := Lib.hid i3
            have OZ := Lib.hid (O2.out.still b3.still)
            have TZ := Lib.hid t3
            have BZ := Lib.hid (B2.out.trans b3.toBelow)
            clear c0 c1 c2 K1 t3 i3 b3
            go_meet
            case rel => exact ⟨_, _, _, IZ.out, OZ.out, TZ.out, BZ.out⟩
          · by_cases hoc : ofCode L who = 0
            · obtain ⟨p, hg, hxp⟩ := ofCode_ok hoc
              obtain ⟨hpL, hpid⟩ := get_mem hg
              have hWL := wait_live w.heap.size T M bl3 L who W2 p T2.out HF.out hg hxp (by omega)
              cases hwf : waitFind L who p with
              | none =>
                have K1 : Hid (∃ code, (code == 0) = false ∧ Calls Tryd.prog 17 #[.pointer (some ⟨T, 0, none⟩), .string who] W2 fun e w' => e = .returned (.tuple #[.string ⟨#[]⟩, .int .i64 0, .int .i64 code]) ∧ TabAt w' w.heap.size T M bl3 L ∧ Bel w.heap.size W2 w') := by
                  refine ⟨if L.any (childOf who) then 63 else 61, by split <;> rfl, hWL.mono ?_⟩
                  rintro e w' ⟨⟨c, hc, rfl, t⟩ | ⟨hc, rfl, t⟩, hb⟩
                  · rw [hwf] at hc; cases hc
                  · exact ⟨rfl, t, hb⟩
                obtain ⟨code, dn, K1⟩ := K1.out
                have K2 := Lib.hid K1
                clear K1 hWL hwf hg hxp hpL hpid hoc
                go_wp2_with (go_at_call 17; refine K2.out.mono ?_; rintro e w3 ⟨rfl, t3, b3⟩)
                have IZ := HI
                have OZ := Lib.hid (O2.out.still b3.still)
                have TZ := Lib.hid t3
                have BZ := Lib.hid (B2.out.trans b3.toBelow)
                clear c0 c1 c2 K2 t3 b3
                go_meet
                case rel => exact ⟨_, _, _, IZ.out, OZ.out, TZ.out, BZ.out⟩
              | some c =>
                have hcL : c ∈ L := List.mem_of_find?_eq_some hwf
                have hct : takes who p c = true := List.find?_some hwf
                have hne : p.id ≠ c.id := fun e => by
                  have := HI.out.uniq p hpL c hcL e
                  subst this
                  unfold takes at hct
                  rw [hxp] at hct
                  simp at hct
                have hIn := HI.out.wait hpL hcL hne
                have K1 : Hid (Calls Tryd.prog 17 #[.pointer (some ⟨T, 0, none⟩), .string who] W2 fun e w' => e = .returned (.tuple #[.string c.id, .int .i64 c.status, .int .i64 0]) ∧ TabAt w' w.heap.size T M bl3 (delP c.id (updP (waitP p c) L)) ∧ Bel w.heap.size W2 w') := by
                  refine hWL.mono ?_
                  rintro e w' ⟨⟨c', hc, rfl, t⟩ | ⟨hc, rfl, t⟩, hb⟩
                  · rw [hwf] at hc; cases hc; exact ⟨rfl, t, hb⟩
                  · rw [hwf] at hc; cases hc
                obtain ⟨cid, hcid⟩ : ∃ s, s = c.id := ⟨_, rfl⟩
                obtain ⟨cst, hcst⟩ : ∃ s, s = c.status := ⟨_, rfl⟩
                rw [← hcid] at K1 hIn
                rw [← hcst] at K1
                obtain ⟨L', hL'⟩ : ∃ L', L' = delP cid (updP (waitP p c) L) := ⟨_, rfl⟩
                rw [← hL'] at K1 hIn
                have IZ := Lib.hid hIn
                clear hIn hL' hcid hcst hWL hwf hg hxp hpL hpid hoc hcL hct hne
                go_wp2_with (go_at_call 17; refine K1.out.mono ?_; rintro e w3 ⟨rfl, t3, b3⟩)
                have O3 := Lib.hid (O2.out.still b3.still)
                have T3 := Lib.hid t3
                have B3 := Lib.hid (B2.out.trans b3.toBelow)
                clear c0 c1 c2 K1 t3 b3
                go_loopw [15, 16] (fun vl vk wr => ∃ k : Nat, vk = .int .i64 k ∧ k ≤ th.length ∧ OwnS wr w.heap.size VV th ∧ OwnS wr w.heap.size vl ((th.take k).filter fun x => !decide (x = cid)) ∧ (∀ q, vl.ownBlock = some q → VV.ownBlock ≠ some q) ∧ TabAt wr w.heap.size T M bl3 L' ∧ Below w.heap.size w wr) (fun _ vk _ => th.length - (intOf vk).toNat)
                case atStart => exact ⟨0, rfl, by omega, O3.out, OwnS.nil _ _, (fun q e => by cases e), T3.out, B3.out⟩
                case round =>
                  obtain ⟨k, rfl, hk1, hO, hOl, hap, hT, hB⟩ := hrel
                  obtain ⟨lk, hlk⟩ : ∃ lk, lk = th.length := ⟨_, rfl⟩
                  have HLK := Lib.hid hlk
                  have hlk3 : lk ≤ 1000 := by have h1 := HI.out.perm.length_eq; have h2 := HI.out.len; rw [List.length_map] at h1; omega
                  have HOO := Lib.hid hO
                  have HOL := Lib.hid hOl
                  have HTT := Lib.hid hT
                  have HBB := Lib.hid hB
                  have HAP := Lib.hid hap
                  by_cases hk : k < th.length
                  · obtain ⟨gk, capk, hvk, _, _, zk⟩ := hO.cell hk
                    obtain ⟨idk, hidk⟩ : ∃ id, id = th[k] := ⟨_, rfl⟩
                    rw [← hidk] at zk
                    have hfl : (th.take (k + 1)).filter (fun x => !decide (x = cid)) = (th.take k).filter (fun x => !decide (x = cid)) ++ (if idk = cid then [] else [idk]) := by
                      rw [List.take_succ_eq_append_getElem hk, List.filter_append, ← hidk]
                      congr 1
                      by_cases e : idk = cid <;> simp [e]
                    have HFL := Lib.hid hfl
                    have hlen5 : ((th.take k).filter (fun x => !decide (x = cid))).length < 1000000 := by
                      have := List.length_filter_le (fun x => !decide (x = cid)) (th.take k)
                      rw [List.length_take] at this
                      omega
                    rw [← hlk] at hk hvk
                    have hVb : Hid (∀ q, VV.ownBlock = some q → q < wr.heap.size) := fun q e => (ownsS_lt HOO.out e)
                    subst hvk
                    clear hO hOl hT hB hap hlk hidk hfl
                    by_cases e : idk = cid
                    · have d1 : (idk.toList == cid.toList) = true := by rw [str_eq]; simpa using e
                      go_wp2
                      go_roundw
                      case rel => exact ⟨k + 1, by push_cast; rfl, by have := HLK.out; omega, HOO.out, by (rw [HFL.out, if_pos e, List.append_nil]; exact HOL.out), HAP.out, HTT.out, HBB.out⟩
                      case measure => have := HLK.out; simp [intOf]; omega
                    · have d1 : (idk.toList == cid.toList) = false := by rw [str_eq]; simpa using e
                      have A5 : Hid (Below wr.heap.size wr (wr.alloc (.cells #[Value.string idk] 9))) := (Below.refl _ _).alloc (Nat.le_refl _) _
                      have O5 := Lib.hid (HOL.out.still (Still.of_below A5.out))
                      go_wp2_with ((with_reducible show wpList _ _ _ (⟨some 99, _, _, _, _, _⟩ :: _) _ _); go_must (refine wpList_append_str_at rfl _ _ rfl w.heap.size _ _ rfl O5.out wr.heap.size 1 idk rfl (by rw [cell_of_row _ _ 0 _ 9 (0, 0) (heap_alloc_new _ _)]; rfl) hlen5 (by have := HBB.out.size; simp; omega) ?_; intro v6 w6 o6 g6 hat6; simp only [Act.put, List.setIfInBounds_toArray, List.set_cons_zero, List.set_cons_succ]))
                      go_roundw
                      case rel =>
                        have hap2 : ∀ q, v6.ownBlock = some q → (Value.slice (some ⟨gk, 0, none⟩) lk capk).ownBlock ≠ some q := fun q e1 e2 => by
                          rcases hat6 with h6 | h6
                          · exact HAP.out q (h6.symm.trans e1) e2
                          · have h7 := hVb.out q e2
                            rw [h6] at e1
                            simp at e1
                            omega
                        refine ⟨k + 1, by push_cast; rfl, by have := HLK.out; omega, ?_, by (rw [HFL.out, if_neg e]; exact o6), hap2, (HTT.out.below A5.out).other (own_other O5.out g6) (by decide) (by decide) (by decide), (HBB.out.trans (A5.out.mono HBB.out.size)).trans (own_below O5.out g6 (by have := HBB.out.size; simp; omega))⟩
                        refine ownsRow_keep' (HOO.out.still (Still.of_below A5.out)) (fun q e2 => g6.block q (by have := hVb.out q e2; simp; omega) (fun e3 => HAP.out q e3.symm e2))
                      case measure => have := HLK.out; simp [intOf]; omega
                  · obtain rfl : k = th.length := by omega
                    rw [List.take_length] at hOl
                    obtain ⟨aoz, capz, hvz⟩ := hO.shape
                    have OZ := Lib.hid hOl
                    rw [← hlk] at hvz
                    rw [← hlk]
                    obtain ⟨vl2, hvl2⟩ : ∃ v : Value, v = u15 := ⟨_, rfl⟩
                    subst hvz
                    have TZ := HTT
                    have BZ := HBB
                    clear hO hOl hT hB hap hk hk1 HOO HOL HAP HTT HBB hvl2
                    go_wp2
                    go_meet
                    case rel => exact ⟨_, _, _, IZ.out, OZ.out, TZ.out, BZ.out⟩
            · have K1 : Hid (Calls Tryd.prog 17 #[.pointer (some ⟨T, 0, none⟩), .string who] W2 fun e w' => e = .returned (.tuple #[.string ⟨#[]⟩, .int .i64 0, .int .i64 (ofCode L who)]) ∧ w' = W2) := wait_no w.heap.size T M bl3 L who W2 T2.out hwho hoc
              obtain ⟨code, hcode⟩ : ∃ code, code = ofCode L who := ⟨_, rfl⟩
              rw [← hcode] at K1 hoc
              have dn : (code == 0) = false := by simpa using hoc
              clear hcode hoc
              go_wp2_with (go_at_call 17; refine K1.out.mono ?_; rintro e w3 ⟨rfl, hw3⟩; rw [hw3])
              have IZ := HI
              have OZ := O2
              have TZ := T2
              have BZ := B2
              clear c0 c1 c2 K1
              go_meet
              case rel => exact ⟨_, _, _, IZ.out, OZ.out, TZ.out, BZ.out⟩
        case rest =>
          obtain ⟨th', L', bl', hIc, hOc, hTc, hBc⟩ := hcut
          have IZ := Lib.hid hIc
          have OZ := Lib.hid hOc
          have TZ := Lib.hid hTc
          have BZ := Lib.hid hBc
          clear hIc hOc hTc hBc
          go_wp2
          go_loopw [17, 18, 19, 20] (fun vs vk _ _ wr => ∃ k : Nat, vk = .int .i64 k ∧ k ≤ (th').length ∧ vs = .int .i64 (sumT (L') ((th').take k)) ∧ OwnS wr w.heap.size u7 (th') ∧ TabAt wr w.heap.size T M bl' (L') ∧ Below w.heap.size w wr) (fun _ vk _ _ _ => (th').length - (intOf vk).toNat)
          case atStart => exact ⟨0, rfl, by omega, rfl, OZ.out, TZ.out, BZ.out⟩
          case round =>
            obtain ⟨k, rfl, hk1, rfl, hO, hT, hB⟩ := hrel
            have htot := IZ.out.total
            have hpt := IZ.out.part k
            by_cases hk : k < (th').length
            · obtain ⟨p, hpL, hpid, hpg⟩ := IZ.out.look (List.getElem_mem hk)
              obtain ⟨gk, capk, hvk, _, _, zk⟩ := hO.cell hk
              have hstep := sumT_step hk hpg
              have hpt1 := IZ.out.part (k + 1)
              rw [hstep] at hpt1
              have hFp := IZ.out.fine p hpL
              have hps := hFp.s0
              have hps1 := hFp.s1
              obtain ⟨idk, hidk⟩ : ∃ id, id = (th')[k] := ⟨_, rfl⟩
              rw [← hidk] at zk hpg hpid
              have hszk : idk.size ≤ maxLen := by have := hFp.id1; rw [hpid] at this; unfold maxLen; omega
              have KI : Hid (Calls Tryd.prog 18 #[.pointer (some ⟨T, 0, none⟩), .string idk] wr fun e w' => ∃ x y z v, e = .returned (.tuple #[infoV p x y z v, .int .i64 0]) ∧ IntsAt w' x p.S ∧ IntsAt w' y p.I ∧ IntsAt w' z p.Plus ∧ IntsAt w' v p.Minus ∧ TabAt w' w.heap.size T M bl' (L') ∧ Bel w.heap.size wr w') := info_some w.heap.size T M bl' (L') idk wr p hT hszk hFp hpg
              obtain ⟨S, hS⟩ : ∃ S, S = sumT (L') ((th').take k) := ⟨_, rfl⟩
              rw [← hS] at hstep hpt hpt1 ⊢
              obtain ⟨ps, hpse⟩ : ∃ ps, ps = p.share := ⟨_, rfl⟩
              have HPS := Lib.hid hpse
              rw [← hpse] at hstep hpt1 hps hps1
              have HST := Lib.hid hstep
              have HOO := Lib.hid hO
              have HBB := Lib.hid hB
              obtain ⟨lk, hlk⟩ : ∃ lk, lk = (th').length := ⟨_, rfl⟩
              have HLK := Lib.hid hlk
              have hlk3 : lk ≤ 1000 := by have h1 := IZ.out.perm.length_eq; have h2 := IZ.out.len; rw [List.length_map] at h1; omega
              rw [← hlk] at hk hvk
              subst hvk
              unfold infoV at KI
              rw [← HPS.out] at KI
              clear hstep hO hT hB hS hpse hidk hpg hpid hpL hlk htot
              go_wp2_with (go_at_call 18; refine KI.out.mono ?_; rintro e w6 ⟨x6, y6, z6, v6, rfl, ix, iy, iz, iv, t6, b6⟩; obtain ⟨_, _, _, rfl⟩ := ix.shape3; obtain ⟨_, _, _, rfl⟩ := iy.shape3; obtain ⟨_, _, _, rfl⟩ := iz.shape3; obtain ⟨_, _, _, rfl⟩ := iv.shape3)
              go_roundw
              case rel =>
                have hal6 := fun o : Obj => ((Below.refl w6.heap.size w6).alloc (Nat.le_refl _) o)
                have hb6 := HBB.out.trans b6.toBelow
                exact ⟨k + 1, by push_cast; rfl, by have := HLK.out; omega, by rw [HST.out]; congr 1; omega, (HOO.out.still b6.still).still (Still.of_below (hal6 _)), t6.below (hal6 _), hb6.trans ((hal6 _).mono hb6.size)⟩
              case measure => have := HLK.out; simp [intOf]; omega
            · obtain rfl : k = (th').length := by omega
              rw [List.take_length, htot]
              obtain ⟨aoz, capz, hvz⟩ := hO.shape
              have HOO := Lib.hid hO
              have HTT := Lib.hid hT
              have HBB := Lib.hid hB
              obtain ⟨lk, hlk⟩ : ∃ lk, lk = (th').length := ⟨_, rfl⟩
              rw [← hlk] at hvz ⊢
              clear hO hT hB htot hpt hlk hk hk1
              subst hvz
              go_wp2
              go_roundw
              case rel => exact ⟨i + 1, (th'), (L'), bl', by push_cast; rfl, by omega, IZ.out, HOO.out, HTT.out, HBB.out⟩
              case measure => simp [intOf]; omega
    · have hcase : (¬ i < n) ∨ (i < n ∧ ¬ i < 60) := by omega
      have HB := Lib.hid hB
      clear hi hB hT hO hI
      rcases hcase with hi | ⟨hi, hi60⟩
      all_goals
        go_wp2_with (go_at_call 15; refine (awake_any _).mono ?_; rintro e w9 ⟨rfl, b9⟩)
        go_ret
        exact ⟨rfl, HB.out.trans (b9.mono HB.out.size)⟩
end Go.Proofs.YtmphnoabkmoafaaDoor
