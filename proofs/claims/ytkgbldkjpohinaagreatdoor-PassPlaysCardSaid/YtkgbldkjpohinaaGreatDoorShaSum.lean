/- hash.SHA256 answers the 32 bytes that 'shaL' says, in new memory. -/
import Derived.Test.YtkgbldkjpohinaaGreatDoorShaMix
import Derived.Test.YtkgbldkjpohinaaGreatDoorShaPad
import Derived.Test.YtkgbldkjpohinaaGreatDoorTypes
import Derived.Test.YtkgbldkjpohinaaGreatDoorBytes
import Derived.Lib.Hide
namespace Go.Proofs.YtkgbldkjpohinaaGreatDoor
open Go.RowKit
theorem run_index_words {P : Program} (w : World) (T E : TypeId) (n : Nat) (l : List Int) (k : Nat) (hu : P.underlying T = some (.array n E)) (hE : P.underlying E = some (.int .u32)) (he : (P.info? E).map (·.size) = some 1)
    (hl : l.length = n) (hk : k < n) : (Instr.index T (.agg (words l)) (.int .i64 (k : Int))).run P w = .ok (.int .u32 (l.getD k 0)) w := by
  cases hq : P.info? E with
  | none => simp [hq] at he
  | some i =>
    have hs : i.size = 1 := by simpa [hq] using he
    have h2 : k < l.length := by omega
    simp [Instr.index, run_underlying hu, run_underlying hE, asIntOf, hk, sizeOf, typeInfo, hq, hs, part, isAgg, words, h2]
theorem wpList_index_words {P : Program} {ops : Array Oper} {Q : Exit → Act → World → Prop} {a : Act} {w : World} {rest : List Oper} {o : Oper} (hg : o.guard = none) (T E : TypeId) (x i : Operand) (hop : o.op = .index T x i) (n : Nat) (l : List Int) (k : Nat)
    (hx : a.eval x = .agg (words l)) (hi : a.eval i = .int .i64 (k : Int)) (hu : P.underlying T = some (.array n E)) (hE : P.underlying E = some (.int .u32)) (he : (P.info? E).map (·.size) = some 1)
    (hl : l.length = n) (hk : k < n) (h : wpList P ops Q rest (a.put o.dst (.int .u32 (l.getD k 0))) w) : wpList P ops Q (o :: rest) a w :=
  wpList_val hg _ (by simp [execOp, hop, hx, hi, run_index_words w T E n l k hu hE he hl hk]) h
set_option maxRecDepth 100000 in
set_option maxHeartbeats 1000000 in
theorem sha_any (v : Value) (l : List Int) (w : World) (hB : BytesAt w v l) (ho : Octs l) (hlen : l.length ≤ 1099511627776) :
    Calls Tryz.prog 36 #[v] w fun e w' => ∃ v', e = .returned v' ∧ w'.ownsRow w.heap.size 5 1 v' 32 (octets (shaL l)) ∧ Below w.heap.size w w' := by
  obtain ⟨i0, hi, hz0, hz1, hz2⟩ := info_parts info5
  obtain ⟨ao, c, rfl⟩ := hB.shape
  go_enter Tryz.func36, Tryz.ntmps36
  go_wp2_with (first
    | ((with_reducible show wpList _ _ _ (⟨some 11, _, _, _, _, _⟩ :: _) _ _); go_must (refine wpList_append_bytes rfl _ _ 80 rfl w.heap.size 5 i0 (.int .u8 0) und23 hi hz0 hz1 hz2 rfl (.slice none 0 0) 0 [] l rfl (World.ownsRow_nil _ _ _ _) _ rfl hB (by omega) (Nat.le_refl _) ?_; intro v1 w1 hown1 hg1 hn1; simp only [Act.put, List.setIfInBounds_toArray, List.set_cons_zero, List.set_cons_succ]; simp only [Nat.zero_add, List.nil_append] at hown1))
    | ((with_reducible show wpList _ _ _ (⟨some 13, _, _, _, _, _⟩ :: _) _ _); go_must (refine wpList_append_bytes rfl _ _ 80 rfl w.heap.size 5 i0 (.int .u8 0) und23 hi hz0 hz1 hz2 rfl v1 l.length l [128] rfl (hown1.alloc _) _ rfl (BytesAt.new w1 5 [128] (by simp)) (by simp; omega) (by have := hg1.size; simp; omega) ?_; intro v2 w2 hown2 hg2 hn2; simp only [Act.put, List.setIfInBounds_toArray, List.set_cons_zero, List.set_cons_succ])))
  have hb2 : Below w.heap.size w w2 := by
    have b1 : Below w.heap.size w w1 := (Below.refl _ _).grown hg1 (Nat.le_refl _) (fun k hk => by simp [Value.ownBlock] at hk)
    exact (b1.alloc b1.size _).grown hg2 (by have := b1.size; simp; omega) (fun k hk => (hown1.lt k hk).1)
  clear hg1 hg2 hn1 hn2 hown1
  go_loopw [3] (fun u wr => ∃ j : Nat, j ≤ padN l.length ∧ wr.ownsRow w.heap.size 5 1 u (l.length + 1 + j) (octets (preL l j)) ∧ Below w.heap.size w wr) (fun u _ => l.length + 100 - sliceLen u)
  case atStart => exact ⟨0, by omega, by simpa [preL] using hown2, hb2⟩
  case round =>
    obtain ⟨j, hj, hown, hb⟩ := hrel
    obtain ⟨ao3, c3, rfl, hc3, _⟩ := owns_shape hown
    have hp : (l.length + 1 + padN l.length) % 64 = 56 ∧ padN l.length < 64 := by unfold padN; omega
    by_cases h56 : (l.length + 1 + j) % 64 = 56
    · have hjp : j = padN l.length := by omega
      subst hjp
      clear hp hB hj
      obtain ⟨m, hm⟩ : ∃ m, m = preL l (padN l.length) := ⟨_, rfl⟩
      obtain ⟨n, hn⟩ : ∃ n, n = l.length + 1 + padN l.length := ⟨_, rfl⟩
      have hnb : n ≤ 1099511627976 := by have : padN l.length < 64 := by (unfold padN; omega)
                                         omega
      rw [← hn] at hown h56
      rw [← hm] at hown
      rw [← hn]
      have Hm := Lib.hid hm
      have Hn := Lib.hid hn
      clear hm hn
      go_wp2
      go_loopw [3, 21] (fun u i wr => ∃ k : Nat, k ≤ 8 ∧ i = .int .i64 k ∧ wr.ownsRow w.heap.size 5 1 u (n + k) (octets (m ++ lenB l.length k)) ∧ Below w.heap.size w wr) (fun _ i _ => 8 - (intOf i).toNat)
      case atStart => exact ⟨0, by omega, rfl, by simpa [lenB] using hown, hb⟩
      case round =>
        clear hown hb
        obtain ⟨k, hk, rfl, hown, hb⟩ := hrel
        obtain ⟨ao3, c3, rfl, hc3, _⟩ := owns_shape hown
        by_cases hlt : k < 8
        · go_wp2_with ((with_reducible show wpList _ _ _ (⟨some 35, _, _, _, _, _⟩ :: _) _ _); go_must (refine wpList_append_bytes rfl _ _ 80 rfl w.heap.size 5 i0 (.int .u8 0) und23 hi hz0 hz1 hz2 rfl _ _ _ [(l.length : Int) * 8 / 2 ^ (56 - 8 * k) % 256] rfl (hown.alloc _) _ rfl (BytesAt.new wr 5 _ (by simp)) (by simp; omega) (by have := hb.size; simp; omega) ?_; intro v4 w4 hown4 hg4 hn4; simp only [Act.put, List.setIfInBounds_toArray, List.set_cons_zero, List.set_cons_succ]))
          go_roundw
          case rel =>
            refine ⟨k + 1, by omega, by go_num, ?_, ?_⟩
            · rw [List.append_assoc] at hown4; exact hown4
            · exact (hb.alloc hb.size _).grown hg4 (by have := hb.size; simp; omega) (fun k hk => (hown.lt k hk).1)
          case measure => first | (simp [intOf]; done) | (simp [intOf]; omega)
        · obtain rfl : k = 8 := by omega
          obtain ⟨P, hP⟩ : ∃ P, P = padL l := ⟨_, rfl⟩
          have hPL : P.length = n + 8 := by rw [hP, padL_length, Hn.out]
          have hPo : Octs P := by rw [hP]; exact padL_octs ho
          rw [Hm.out, ← padL_eq, ← hP] at hown
          have HP := Lib.hid hP
          obtain ⟨g, cap, hv, hgb, hgl, hnc, hcm, hcell⟩ := owns_cells hown (by omega)
          obtain ⟨rfl, rfl⟩ : ao3 = some ⟨g, 0, none⟩ ∧ c3 = cap := by simpa using hv
          clear hP hv hown hc3 Hm
          unfold maxLen at hcm
          go_wp2_with (first
            | (go_at_call 52; refine (first_any _).mono ?_; rintro e w1 ⟨rfl, hb1⟩)
            | (with_reducible refine wpList_al (o := ⟨some 5, _, _, _, _, _⟩) rfl 108 rfl _ info47 ?_; simp only [Act.put, List.setIfInBounds_toArray, List.set_cons_zero, List.set_cons_succ])
            | (with_reducible refine wpList_al (o := ⟨some 6, _, _, _, _, _⟩) rfl 109 rfl _ info48 ?_; simp only [Act.put, List.setIfInBounds_toArray, List.set_cons_zero, List.set_cons_succ, World.size_alloc])
            | ((with_reducible show wpList _ _ _ (⟨none, .store 108 _ _, _, _, _, _⟩ :: _) _ _); go_must (refine wpList_store_row rfl 108 _ _ rfl w1.heap.size (words h8) rfl rfl 108 (words (zz 8)) (heap_alloc2_old w1 _ _) size47 rfl (words_oneCell _) ?_))
            | ((with_reducible show wpList _ _ _ (⟨none, .store 109 _ _, _, _, _, _⟩ :: _) _ _); go_must (refine wpList_store_row rfl 109 _ _ rfl (w1.heap.size + 1) (words k64) rfl rfl 109 (words (zz 64)) ((setRow_other _ _ _ _ (by omega)).trans (heap_alloc2_new w1 _ _)) size48 rfl (words_oneCell _) ?_); simp only [Act.put]))
          go_loopw [3] (fun u wz => ∃ t : Nat, 64 * t ≤ n + 8 ∧ ∃ ao, u = .slice ao (n + 8 - 64 * t) (c3 - 64 * t) ∧ (64 * t < n + 8 → ao = some ⟨g, 64 * t, none⟩) ∧ (∀ j, j < P.length → wz.cell? ⟨g, j, none⟩ = some (.int .u8 (P.getD j 0))) ∧ Row32 wz w1.heap.size 108 (foldH P t) ∧ Below w.heap.size w wz ∧ w1.heap.size < wz.heap.size) (fun u _ => sliceLen u)
          case atStart =>
            have hsz := hb1.size
            have hB1 : Below w.heap.size w w1 := hb.trans (hb1.mono (by have := hb.size; omega))
            refine ⟨0, by omega, some ⟨g, 0, none⟩, by simp, fun _ => rfl, fun j hj => ?_, ?_, ?_, by simp; omega⟩
            · have h1 : Below w1.heap.size w1 ((((w1.alloc (.cells (words (zz 8)) 108)).alloc (.cells (words (zz 64)) 109)).setRow w1.heap.size (words h8)).setRow (w1.heap.size + 1) (words k64)) :=
                Below.setRow (Below.setRow (((Below.refl _ _).alloc (Nat.le_refl _) _).alloc (by simp) _) (Nat.le_refl _) _) (by omega) _
              exact ((h1.cell (p := ⟨g, j, none⟩) (by simp only; omega)).trans (hb1.cell (p := ⟨g, j, none⟩) (by simp only; omega))).trans (hcell j hj)
            · exact Row32.setRow_other (setRow_heap _ _ _ _ _ _ (heap_alloc2_old w1 _ _)) (by omega) _
            · exact Below.setRow (Below.setRow ((hB1.alloc hB1.size _).alloc (by have := hB1.size; simp; omega) _) hB1.size _) (by have := hB1.size; omega) _
          case round =>
            obtain ⟨fw, hfw⟩ : ∃ fw, fw = w1.heap.size := ⟨_, rfl⟩
            rw [← hfw] at hrel
            rw [← hfw]
            have hgf : g < fw := by rw [hfw]; have := hb1.size; omega
            have hwf : w.heap.size ≤ fw := by rw [hfw]; have := hb1.size; have := hb.size; omega
            clear hfw hb1 hcell hgl hb
            obtain ⟨t, ht, ao4, rfl, hao, hcell, hrow, hb, hfl⟩ := hrel
            by_cases hlt : 64 * t < n + 8
            · obtain rfl := hao hlt
              have h64 : 64 ≤ n + 8 - 64 * t := by omega
              have hmix := fun W (hW : ∀ j, j < 64 → World.cell? W ⟨g, 64 * t + j, none⟩ = some (.int .u8 (P.getD (64 * t + j) 0))) (hg : g < W.heap.size) =>
                mix_any g (64 * t) (n + 8 - 64 * t) (c3 - 64 * t) (foldH P t) (foldH_length P t) (fun j => P.getD (64 * t + j) 0) W h64 (by omega) hg hW (fun j => hPo.getD _)
              have Hcell := Lib.hid hcell
              have HPL := Lib.hid hPL
              have HPo := Lib.hid hPo
              clear hcell hPL hPo hao
              have Hmix := Lib.hid hmix
              clear hmix
              have hc64 : 64 ≤ c3 - 64 * t := by omega
              · go_wp2_with (first
                  | ((with_reducible show wpList _ _ _ (⟨some 46, _, _, _, _, _⟩ :: _) _ _); go_must (refine wpList_load_row rfl 108 _ rfl fw rfl 108 (words (foldH P t)) (0, 0) _ hrow und47 rfl (by rw [words_size, foldH_length]; exact size47) ?_); simp only [Act.put, List.setIfInBounds_toArray, List.set_cons_zero, List.set_cons_succ])
                  | (go_at_call 53; refine (Hmix.out _ (fun j hj => Hcell.out _ (by rw [HPL.out]; omega)) (by omega)).mono ?_; rintro e w5 ⟨rfl, hb5⟩)
                  | ((with_reducible show wpList _ _ _ (⟨none, .store 108 _ _, _, _, _, _⟩ :: _) _ _); go_must (refine wpList_store_row rfl 108 _ _ rfl fw (words (mixL (foldH P t) (fun j => P.getD (64 * t + j) 0))) rfl rfl 108 _ (hrow.below hb5 hfl) (by rw [words_size, mixL_length (foldH_length P t)]; exact size47) (by rw [words_size, words_size, foldH_length, mixL_length (foldH_length P t)]) (words_oneCell _) ?_); simp only [Act.put]))
                go_roundw
                case rel =>
                  have e1 : n + 8 - 64 * t - 64 = n + 8 - 64 * (t + 1) := by omega
                  have e2 : c3 - 64 * t - 64 = c3 - 64 * (t + 1) := by omega
                  have hs5 := hb5.size
                  refine ⟨t + 1, by omega, _, by rw [e1, e2], fun h => ?_, fun j hj => ?_, ?_, ?_, by simp; omega⟩
                  · rw [if_neg (by omega), show 64 * t + 64 = 64 * (t + 1) by omega]
                  · have h1 : Below fw w5 (w5.setRow fw (words (mixL (foldH P t) fun j => P[64 * t + j]?.getD 0))) := Below.setRow (Below.refl _ _) (Nat.le_refl _) _
                    exact ((h1.cell (p := ⟨g, j, none⟩) (by simp only; omega)).trans (hb5.cell (p := ⟨g, j, none⟩) (by simp only; omega))).trans (Hcell.out j hj)
                  · exact (hrow.below hb5 hfl).setRow_same _
                  · exact Below.setRow (hb.trans (hb5.mono (by have := hb.size; omega))) hwf _
                case measure => simp [sliceLen]; omega
            · have hPt : P.length / 64 = t := by omega
              obtain ⟨st, hst⟩ : ∃ st, st = foldH P t := ⟨_, rfl⟩
              have hsl : st.length = 8 := by rw [hst]; exact foldH_length P t
              have Hsl := Lib.hid hsl
              rw [← hst] at hrow
              have Hres : Hid (shaL l = outB st 8) := by
                show shaL l = outB st 8
                rw [shaL, ← HP.out, hPt, ← hst]
              clear hst hPt hsl hao hcell hPL hPo
              go_wp2_with (first
                | ((with_reducible show wpList _ _ _ (⟨some 50, _, _, _, _, _⟩ :: _) _ _); go_must (refine wpList_load_row rfl 108 _ rfl fw rfl 108 (words st) (0, 0) _ hrow6 und47 rfl (by rw [words_size, Hsl.out]; exact size47) ?_); simp only [Act.put, List.setIfInBounds_toArray, List.set_cons_zero, List.set_cons_succ])
                | ((with_reducible show wpList _ _ _ (⟨some 49, _, _, _, _, _⟩ :: _) _ _); go_must (refine wpList_make_own _ rfl _ _ 80 rfl w.heap.size 5 i0 (.int .u8 0) 1 und23 hi hz0 hz1 _ _ _ 32 rfl rfl rfl (by rw [hz2]; decide) (by unfold maxLen; decide) hb.size ?_); intro w6 hown6 hg6; simp only [Act.put, List.setIfInBounds_toArray, List.set_cons_zero, List.set_cons_succ]; have hrow6 : Row32 w6 fw 108 st := (hg6.block fw hfl (by simp)).trans hrow))
              have hb6 : Below w.heap.size w w6 := hb.grown hg6 hb.size (fun k hk => by cases hk)
              clear hb hrow hrow6 hg6
              go_loopw [7, 51] (fun u i wz => ∃ k : Nat, k ≤ 8 ∧ i = .int .i64 k ∧ wz.ownsRow w.heap.size 5 1 u (4 * k) (octets (outB st k)) ∧ Below w.heap.size w wz) (fun _ i _ => 8 - (intOf i).toNat)
              case atStart => exact ⟨0, by omega, rfl, hown6, hb6⟩
              case round =>
                clear hown6 hb6
                obtain ⟨k, hk, rfl, hown, hb⟩ := hrel
                obtain ⟨ao7, c7, rfl, hc7, _⟩ := owns_shape hown
                by_cases hlt : k < 8
                · go_wp2_with (first
                    | ((with_reducible show wpList _ _ _ (⟨some 53, _, _, _, _, _⟩ :: _) _ _); go_must (refine wpList_index_words rfl 108 107 _ _ rfl 8 st k rfl rfl und47 und46 size46 Hsl.out hlt ?_); simp only [Act.put, List.setIfInBounds_toArray, List.set_cons_zero, List.set_cons_succ])
                    | ((with_reducible show wpList _ _ _ (⟨some 67, _, _, _, _, _⟩ :: _) _ _); go_must (refine wpList_append_bytes rfl _ _ 80 rfl w.heap.size 5 i0 (.int .u8 0) und23 hi hz0 hz1 hz2 rfl _ _ _ [st.getD k 0 / 16777216 % 256, st.getD k 0 / 65536 % 256, st.getD k 0 / 256 % 256, st.getD k 0 % 256] rfl (hown.alloc _) _ rfl (BytesAt.new wr 5 _ (by simp)) (by simp; omega) (by have := hb.size; simp; omega) ?_; intro v8 w8 hown8 hg8 hn8; simp only [Act.put, List.setIfInBounds_toArray, List.set_cons_zero, List.set_cons_succ])))
                  go_roundw
                  case rel =>
                    refine ⟨k + 1, by omega, by go_num, ?_, ?_⟩
                    · rw [show 4 * (k + 1) = 4 * k + 4 by omega]; exact hown8
                    · exact (hb.alloc hb.size _).grown hg8 (by have := hb.size; simp; omega) (fun k hk => (hown.lt k hk).1)
                  case measure => first | (simp [intOf]; done) | (simp [intOf]; omega)
                · obtain rfl : k = 8 := by omega
                  go_wp2
                  go_ret
                  exact ⟨_, rfl, by rw [Hres.out]; exact hown, hb⟩
    · have hjp : j < padN l.length := by
        rcases Nat.lt_or_ge j (padN l.length) with h | h
        · exact h
        · have : j = padN l.length := by omega
          subst this; omega
      obtain ⟨hp1, hp2⟩ := hp
      have Hp := Lib.hid hp1
      clear hp1 hB
      go_wp2_with ((with_reducible show wpList _ _ _ (⟨some 20, _, _, _, _, _⟩ :: _) _ _); go_must (refine wpList_append_bytes rfl _ _ 80 rfl w.heap.size 5 i0 (.int .u8 0) und23 hi hz0 hz1 hz2 rfl _ _ (preL l j) [0] rfl (hown.alloc _) _ rfl (BytesAt.new wr 5 [0] (by simp)) (by simp; omega) (by have := hb.size; simp; omega) ?_; intro v4 w4 hown4 hg4 hn4; simp only [Act.put, List.setIfInBounds_toArray, List.set_cons_zero, List.set_cons_succ]))
      obtain ⟨ao4, c4, rfl, hc4, _⟩ := owns_shape hown4
      go_roundw
      case rel =>
        refine ⟨j + 1, by omega, ?_, ?_⟩
        · rw [preL_succ] at hown4; exact hown4
        · exact (hb.alloc hb.size _).grown hg4 (by have := hb.size; simp; omega) (fun k hk => (hown.lt k hk).1)
      case measure => simp [sliceLen]; omega
end Go.Proofs.YtkgbldkjpohinaaGreatDoor
