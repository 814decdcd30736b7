/- lazaretref2.sum is SHA-256 of a text. -/
import Derived.Test.YtkgbldkjpohinaaGreatDoorRefConst
import Derived.Test.YtkgbldkjpohinaaGreatDoorShaRot
import Derived.Test.YtkgbldkjpohinaaGreatDoorTail2
import Derived.Test.YtkgbldkjpohinaaGreatDoorShaPad
import Derived.Test.YtkgbldkjpohinaaGreatDoorOwnB
import Derived.Lib.Hide
import Derived.Test.YtkgbldkjpohinaaGreatDoorRefRound
namespace Go.Proofs.YtkgbldkjpohinaaGreatDoor
open Go.RowKit
theorem info46 : (Tryz.prog.info? 107).map (fun i => (i.zero, i.size, i.bytes)) = some (some (.int .u32 0), 1, 4) := by kernel_rfl
structure SumJ (W0 : World) (B g gh : Nat) (M H : List Int) (wz : World) : Prop where
  below : Below (B + 1) W0 wz
  pc : ∀ j, j < M.length → wz.cell? ⟨g, j, none⟩ = some (.int .u8 (M.getD j 0))
  rh : RowN wz gh 107 H
  gl : g < wz.heap.size
  bl : B + 1 ≤ wz.heap.size
section
variable {W0 wz w' : World} {B g gh : Nat} {M H : List Int}
theorem SumJ.drewN (h : SumJ W0 B g gh M H wz) (n : Nat) : SumJ W0 B g gh M H (wz.drewN n) :=
  ⟨⟨h.below.os, h.below.tape, h.below.output, h.below.size, h.below.block⟩, h.pc, h.rh, h.gl, h.bl⟩
theorem SumJ.set (h : SumJ W0 B g gh M H wz) {x : Nat} (hx1 : B < x) (hx2 : g ≠ x) (hx3 : gh ≠ x) (k : Nat) (v : Value) : SumJ W0 B g gh M H (wz.setCell ⟨x, k, none⟩ v) :=
  ⟨h.below.setCell (by simp only; omega) v, fun j hj => by rw [World.cell?_setCell_other _ _ _ _ (by simp only [ne_eq, Addr.mk.injEq, not_and]; omega)]; exact h.pc j hj, h.rh.other (by simp only; omega) v, by simpa [World.setCell] using h.gl, by simpa [World.setCell] using h.bl⟩
theorem SumJ.seth (h : SumJ W0 B g gh M H wz) (hx1 : B < gh) (hx2 : g ≠ gh) (k : Nat) (v : Int) : SumJ W0 B g gh M (H.set k v) (wz.setCell ⟨gh, k, none⟩ (.int .u32 v)) :=
  ⟨h.below.setCell (by simp only; omega) _, fun j hj => by rw [World.cell?_setCell_other _ _ _ _ (by simp only [ne_eq, Addr.mk.injEq, not_and]; omega)]; exact h.pc j hj, h.rh.set k v, by simpa [World.setCell] using h.gl, by simpa [World.setCell] using h.bl⟩
theorem SumJ.alloc (h : SumJ W0 B g gh M H wz) (o : Obj) : SumJ W0 B g gh M H (wz.alloc o) :=
  ⟨h.below.alloc h.bl o, fun j hj => by rw [World.cell?_alloc_lt wz o ⟨g, j, none⟩ h.gl]; exact h.pc j hj, h.rh.alloc o, by have := h.gl; simp; omega, by have := h.bl; simp; omega⟩
theorem SumJ.grown (h : SumJ W0 B g gh M H wz) {row : Option Nat} (hg : wz.grownBy w' row) (hr : ∀ k, row = some k → B < k ∧ g ≠ k ∧ gh ≠ k) : SumJ W0 B g gh M H w' :=
  ⟨h.below.grown hg h.bl (fun k hk => (hr k hk).1), fun j hj => by rw [World.cell?_of_block (w := wz) (hg.block g h.gl (fun e => (hr g e.symm).2.1 rfl))]; exact h.pc j hj, h.rh.grown hg (fun e => (hr gh e.symm).2.2 rfl), by have := hg.size; have := h.gl; omega, by have := hg.size; have := h.bl; omega⟩
end
theorem region_move_sink {P : Program} {Q : Exit → Act → World → Prop} {id : Nat} {a : Act} {w : World} {o0 : Oper} {l : List Oper} (n : Nat) (x : Operand) (v : Value) (hv : a.eval x = v) (ho0 : o0.op = .move x) (hg0 : o0.guard = none) (hm : P.follows .mixedOrders = true) (hsel : Region.noSelect (o0 :: l).toArray = true)
    (hfree : Region.free .any (o0 :: l).toArray (Array.replicate (l.length + 1) false) 0 = true)
    (hselH : Region.noSelect ((o0 :: l).take (n + 1)).toArray = true) (hB : Region.lexFrom .any ((o0 :: l).take (n + 1)).toArray n 1 ((Array.replicate (n + 1) false).setIfInBounds 0 true) = true) (hT : tailM (o0 :: l).toArray 1 (n + 1) = true)
    (hQ' : ∀ c (a : Act) (v : Value) w, Q (.panic c) (a.put o0.dst v) w → Q (.panic c) a w)
    (h : wpQuiet P ((o0 :: l).take (n + 1)).toArray (fun w' => ∃ k, w' = w.drewN k) (fun a' => ∀ w', (∃ k, w' = w.drewN k) → wpList P (o0 :: l).toArray Q (l.drop n) a' w') (l.take n) (a.put o0.dst v)) : (Code.region id (o0 :: l).toArray true).wp P Q a w := by
  subst hv
  exact wp_region_move_quiet_sink n x ho0 hg0 hm hsel hfree hselH hB hT hQ' h
theorem own_mono {wz : World} {b0 b1 : Nat} {e : TypeId} {size n : Nat} {v : Value} {xs : List Value} (h : wz.ownsRow b1 e size v n xs) (hb : b0 ≤ b1) : wz.ownsRow b0 e size v n xs := by
  rcases h with ⟨h1, h2⟩
  refine ⟨h1, ?_⟩
  rcases h2 with h2 | ⟨g, cap, cur, h3, h4, h5⟩
  · exact .inl h2
  · exact .inr ⟨g, cap, cur, h3, Nat.le_trans hb h4, h5⟩
set_option maxRecDepth 100000 in
set_option maxHeartbeats 40000000 in
theorem sum_any (bk bh : Nat) (s : ByteArray) (w : World) (hk : Row32 w bk 107 k64) (hh : Row32 w bh 107 h8) (hs : s.size ≤ 1099511627776) :
    Calls Tryz.prog 39 #[.agg #[.slice (some ⟨bk, 0, none⟩) 64 64, .slice (some ⟨bh, 0, none⟩) 8 8], .string s] w fun e w' => ∃ v', e = .returned v' ∧ w'.ownsRow w.heap.size 5 1 v' 32 (octets (shaL (bytesOf s))) ∧ Below w.heap.size w w' := by
  obtain ⟨i0, hi, hz0, hz1, hz2⟩ := info_parts info5
  obtain ⟨i4, hi4, hy0, hy1, hy2⟩ := info_parts info46
  go_enter Tryz.func39, Tryz.ntmps39
  go_wp2_with (first
    | ((with_reducible show wpList _ _ _ (⟨some 27, _, _, _, _, _⟩ :: _) _ _); go_must (refine wpList_string_own rfl 9 80 5 _ rfl s und9 und23 und5 rfl (w.heap.size + 1) (by simp) (by unfold maxLen; omega) ?_; intro v1 w1 hown1 hb1; simp only [Act.put, List.setIfInBounds_toArray, List.set_cons_zero, List.set_cons_succ]))
    | ((with_reducible show wpList _ _ _ (⟨some 29, _, _, _, _, _⟩ :: _) _ _); go_must (refine wpList_append_ownB rfl _ _ 80 rfl (w.heap.size + 1) 5 i0 (.int .u8 0) und23 hi hz0 hz1 hz2 rfl v1 (bytesOf s) [128] rfl (hown1.alloc _) _ rfl (BytesAt.new w1 5 [128] (by simp)) (by simp) (by simp [bytesOf_length]; omega) (by have := hb1.size; simp at this ⊢; omega) ?_; intro v2 w2 hown2 hg2; simp only [Act.put, List.setIfInBounds_toArray, List.set_cons_zero, List.set_cons_succ])))
  obtain ⟨W0, hW0⟩ : ∃ W0, W0 = w.alloc (Obj.cells #[.slice (some ⟨bk, 0, none⟩) 64 64, .slice (some ⟨bh, 0, none⟩) 8 8] 93) := ⟨_, rfl⟩
  have hsz0 : W0.heap.size = w.heap.size + 1 := by rw [hW0]; simp
  have hB0 : Below w.heap.size w W0 := by rw [hW0]; exact (Below.refl _ _).alloc (Nat.le_refl _) _
  have hb2 : Below (w.heap.size + 1) W0 w2 := by
    rw [← hW0, hsz0] at hb1
    exact (hb1.alloc (by have := hb1.size; omega) _).grown hg2 (by have := hb1.size; simp; omega) (fun k hk => (hown1.lt k hk).1)
  have hx1 : W0.cell? ⟨w.heap.size, 1, none⟩ = some (.slice (some ⟨bh, 0, none⟩) 8 8) := by rw [hW0, cell_of_row _ _ _ _ 93 (0, 0) (heap_alloc_new w _)]; rfl
  have hx0 : W0.cell? ⟨w.heap.size, 0, none⟩ = some (.slice (some ⟨bk, 0, none⟩) 64 64) := by rw [hW0, cell_of_row _ _ _ _ 93 (0, 0) (heap_alloc_new w _)]; rfl
  have hk0 : Row32 W0 bk 107 k64 := by rw [hW0]; exact hk.alloc _
  have hh0 : Row32 W0 bh 107 h8 := by rw [hW0]; exact hh.alloc _
  have hkl := hk.lt
  have hhl := hh.lt
  clear hb1 hown1 hg2 hk hh hW0
  go_loopw [6] (fun u wr => ∃ j : Nat, j ≤ padN s.size ∧ OwnB wr (w.heap.size + 1) 5 u (preL (bytesOf s) j) ∧ Below (w.heap.size + 1) W0 wr) (fun u _ => s.size + 100 - sliceLen u)
  case atStart => exact ⟨0, by omega, by simpa [preL] using hown2, hb2⟩
  case round =>
    clear hown2 hb2
    obtain ⟨j, hj, hown, hb⟩ := hrel
    have hbs := hb.size
    rw [hsz0] at hbs
    obtain ⟨ao3, c3, hv, hc3⟩ := hown.shape
    rw [preL_length, bytesOf_length] at hv hc3
    subst hv
    have hp : (s.size + 1 + padN s.size) % 64 = 56 ∧ padN s.size < 64 := by unfold padN; omega
    by_cases h56 : (s.size + 1 + j) % 64 = 56
    · have hjp : j = padN s.size := by omega
      subst hjp
      clear hp hj
      obtain ⟨m, hm⟩ : ∃ m, m = preL (bytesOf s) (padN s.size) := ⟨_, rfl⟩
      obtain ⟨n, hn⟩ : ∃ n, n = s.size + 1 + padN s.size := ⟨_, rfl⟩
      have hml : m.length = n := by rw [hm, hn, preL_length, bytesOf_length]
      have hnb : n ≤ 1099511627976 := by
        have : padN s.size < 64 := by unfold padN; omega
        omega
      rw [← hn] at hown h56 hc3
      rw [← hm] at hown
      rw [← hn]
      have Hm := Lib.hid hm
      have Hn := Lib.hid hn
      have Hml := Lib.hid hml
      clear hm hn hml
      have q33 : ((n : Int) % 64 != 56) = false := by simp; omega
      go_wp2
      try rw [q33]
      go_loopw [6, 7] (fun u i wr => ∃ k : Nat, k ≤ 8 ∧ i = .int .i64 (56 - 8 * (k : Int)) ∧ OwnB wr (w.heap.size + 1) 5 u (m ++ lenB s.size k) ∧ Below (w.heap.size + 1) W0 wr) (fun _ i _ => (intOf i + 64).toNat)
      case atStart => exact ⟨0, by omega, rfl, by simpa [lenB] using hown, hb⟩
      case round =>
        clear hown hb hbs
        obtain ⟨k, hk, rfl, hown, hb⟩ := hrel
        have hbs := hb.size
        rw [hsz0] at hbs
        obtain ⟨ao3, c3, hv, hc3⟩ := hown.shape
        rw [List.length_append, lenB_length, Hml.out] at hv hc3
        subst hv
        by_cases hlt : k < 8
        · go_wp2_with ((with_reducible show wpList _ _ _ (⟨some 47, _, _, _, _, _⟩ :: _) _ _); go_must (refine wpList_append_ownB rfl _ _ 80 rfl (w.heap.size + 1) 5 i0 (.int .u8 0) und23 hi hz0 hz1 hz2 rfl _ _ [(s.size : Int) * 8 / 2 ^ (56 - 8 * k) % 256] rfl (hown.alloc _) _ rfl (BytesAt.new wr 5 _ (by simp)) (by simp) (by simp [lenB_length, Hml.out]; omega) (by simp; omega) ?_; intro v4 w4 hown4 hg4; simp only [Act.put, List.setIfInBounds_toArray, List.set_cons_zero, List.set_cons_succ]))
          rw [List.append_assoc] at hown4
          go_roundw
          case rel => exact ⟨k + 1, by omega, by go_num, hown4, (hb.alloc (by omega) _).grown hg4 (by simp; omega) (fun k hk => (hown.lt k hk).1)⟩
          case measure => simp only [intOf]; omega
        · obtain rfl : k = 8 := by omega
          obtain ⟨M, hM⟩ : ∃ M, M = padL (bytesOf s) := ⟨_, rfl⟩
          have hML : M.length = n + 8 := by rw [hM, padL_length, bytesOf_length, Hn.out]
          have hMo : Octs M := by rw [hM]; exact padL_octs (bytesOf_octs s)
          have hmM : m ++ lenB s.size 8 = M := by rw [hM, padL_eq, bytesOf_length, Hm.out]
          rw [hmM] at hown
          have HM := Lib.hid hM
          obtain ⟨g, cap, hv, hgb, hgl, hnc, hcm, hcell⟩ := hown.cells (by omega)
          obtain ⟨rfl, rfl⟩ : ao3 = some ⟨g, 0, none⟩ ∧ c3 = cap := by
            rw [hML] at hv
            simpa using hv
          clear hM hv hown hc3 Hm hmM
          unfold maxLen at hcm
          have hc1 : ∀ o, (wr.alloc o).cell? ⟨w.heap.size, 1, none⟩ = some (.slice (some ⟨bh, 0, none⟩) 8 8) := fun o =>
            (((hb.alloc (by omega) o).cell (p := ⟨w.heap.size, 1, none⟩) (by simp)).trans hx1)
          have hhr : ∀ o, Row32 (wr.alloc o) bh 107 h8 := fun o => hh0.below (hb.alloc (by omega) o) (by omega)
          have hnews : ∀ o j u, (h8.map (Value.int .u32))[j]? = some u → (wr.alloc o).cell? ((⟨bh, 0, none⟩ : Addr).add j) = some u := fun o j u hu => by
            have hj : j < h8.length := by
              have := (List.getElem?_eq_some_iff.1 hu).1
              simpa using this
            rw [Addr.add_mid, Nat.zero_add, (hhr o).cell hj]
            simp [List.getD, hj] at hu ⊢
            exact hu
          go_wp2_with (first
            | ((with_reducible show wpList _ _ _ (⟨some 51, _, _, _, _, _⟩ :: _) _ _); go_must (refine wpList_append_own _ rfl _ _ 91 rfl wr.heap.size 107 i4 (.int .u32 0) 1 4 und53 hi4 hy0 hy1 hy2 rfl (by decide) _ 0 [] rfl (World.ownsRow_made wr #[] 0 (Nat.le_refl _) (by decide) rfl) ⟨bh, 0, none⟩ 8 8 (h8.map (Value.int .u32)) rfl rfl (hnews _) (ints_oneCell _ _) (by decide) (by decide) (by simp) ?_; intro vh w3 hownh hgh _; simp only [Act.put, List.setIfInBounds_toArray, List.set_cons_zero, List.set_cons_succ]))
            | ((with_reducible show wpList _ _ _ (⟨some 52, _, _, _, _, _⟩ :: _) _ _); go_must (refine wpList_make_full _ rfl _ _ 91 rfl (w.heap.size + 1) 107 i4 (.int .u32 0) 1 und53 hi4 hy0 hy1 _ _ _ _ 64 rfl rfl rfl rfl (by rw [hy2]; decide) (by decide) (by have := hgh.size; simp at this; omega) ?_; intro w4 hownw hgw; simp only [Act.put, List.setIfInBounds_toArray, List.set_cons_zero, List.set_cons_succ])))
          have hz64 : (madeCells (Value.int .u32 0).cells (64 * 1)).toList = (zz 64).map (Value.int .u32) := by kernel_rfl
          rw [hz64] at hownw
          have hghs := hgh.size
          simp only [World.size_alloc] at hghs
          obtain ⟨gh, caph, rfl, hghb, hcaph, hrh⟩ := RowN.of_owns hownh (by omega)
          obtain ⟨gw, capw, hvw, _, _, hrw⟩ := RowN.of_owns hownw (by omega)
          obtain ⟨rfl, rfl⟩ : gw = w3.heap.size ∧ capw = 64 := by simp at hvw; omega
          have hgl1 := hrh.lt
          have hb4 : Below (w.heap.size + 1) W0 w4 := ((hb.alloc (by omega) _).grown hgh (by simp; omega) (fun k hk => Nat.le_trans hbs ((World.ownsRow_made wr #[] 0 (Nat.le_refl _) (by decide) rfl : World.ownsRow _ wr.heap.size 107 1 _ 0 []).lt k hk).1)).grown hgw (by omega) (fun k hk => by cases hk)
          have hrh4 : RowN w4 gh 107 h8 := hrh.grown hgw (by simp)
          have hgw4 : w3.heap.size < w4.heap.size := hrw.lt
          have hJ4 : SumJ W0 w.heap.size g gh M h8 w4 := ⟨hb4, fun j hj => ?pcs, hrh4, by omega, by omega⟩
          case pcs =>
            rw [World.cell?_of_block (w := w3) (hgw.block g (by omega) (by simp)), World.cell?_of_block (w := wr.alloc (.cells #[] 107)) (hgh.block g (by simp; omega) (fun e => absurd ((World.ownsRow_made wr #[] 0 (Nat.le_refl _) (by decide) rfl : World.ownsRow _ wr.heap.size 107 1 _ 0 []).lt g e.symm).1 (by omega))), World.cell?_alloc_lt wr _ ⟨g, j, none⟩ hgl]
            exact hcell j hj
          have HMo := Lib.hid hMo
          have HML := Lib.hid hML
          have Hx0 := Lib.hid hx0
          have Hk0 := Lib.hid hk0
          have hBg : w.heap.size < g := hgb
          have hggh : g < gh := by omega
          clear hb4 hrh4 hcell hMo hML hx0 hx1 hk0 hh0 hc1 hhr hnews hb hownh hownw hgh hgw hrh hz64 hgl
          go_loopw [10] (fun u wz => ∃ t : Nat, 64 * t ≤ n + 8 ∧ u = .int .i64 (64 * (t : Int)) ∧ SumJ W0 w.heap.size g gh M (foldH M t) wz ∧ ∃ wl : List Int, wl.length = 64 ∧ RowN wz w3.heap.size 107 wl) (fun u _ => (n + 8 - intOf u).toNat)
          case atStart => exact ⟨0, by omega, rfl, hJ4, zz 64, rfl, hrw⟩
          case round =>
            clear hJ4 hrw
            obtain ⟨t, ht, rfl, hJ, wl, hwl, hrw⟩ := hrel
            by_cases hlt : 64 * t < n + 8
            · have h64 : 64 * t + 64 ≤ n + 8 := by omega
              obtain ⟨p, hp⟩ : ∃ p : Nat → Int, p = fun j => M.getD (64 * t + j) 0 := ⟨_, rfl⟩
              obtain ⟨H, hH⟩ : ∃ H, H = foldH M t := ⟨_, rfl⟩
              have hHl : H.length = 8 := by rw [hH]; exact foldH_length M t
              rw [← hH] at hJ
              have Hp := Lib.hid hp
              have HH := Lib.hid hH
              have HHl := Lib.hid hHl
              clear hp hH hHl
              have q56 : decide (64 * (t : Int) < (n : Int) + 8) = true := by simp; omega
              go_wp2
              try rw [q56]
              go_loopw [11] (fun u wz => ∃ k : Nat, k ≤ 64 ∧ u = .int .i64 k ∧ SumJ W0 w.heap.size g gh M H wz ∧ ∃ wl : List Int, wl.length = 64 ∧ wl.take k = wpre p k ∧ RowN wz w3.heap.size 107 wl) (fun u _ => 64 - (intOf u).toNat)
              case atStart => exact ⟨0, by omega, rfl, hJ, wl, hwl, rfl, hrw⟩
              case round =>
                clear hJ hwl hrw
                obtain ⟨k, hk, rfl, hJ, wl, hwl, htk, hrw⟩ := hrel
                by_cases hk16 : k < 16
                · --A
                  have hx : ∀ j, 64 * t + j < n + 8 → ∃ x, x = M.getD (64 * t + j) 0 ∧ 0 ≤ x ∧ x < 256 ∧ wr.cell? ⟨g, 64 * t + j, none⟩ = some (.int .u8 x) := fun j hj =>
                    ⟨_, rfl, (HMo.out.getD _).1, (HMo.out.getD _).2, hJ.pc (64 * t + j) (by rw [HML.out]; exact hj)⟩
                  obtain ⟨x0, e0, p0, q0, c0⟩ := hx (4 * k) (by omega)
                  obtain ⟨x1, e1, p1, q1, c1⟩ := hx (4 * k + 1) (by omega)
                  obtain ⟨x2, e2, p2, q2, c2⟩ := hx (4 * k + 2) (by omega)
                  obtain ⟨x3, e3, p3, q3, c3⟩ := hx (4 * k + 3) (by omega)
                  rw [← Nat.add_assoc] at c1 c2 c3
                  have Hx : Hid (wword p k = bits .or .u32 (bits .or .u32 (bits .or .u32 (x0 * 16777216) (x1 * 65536)) (x2 * 256)) x3) := by
                    show wword p k = _
                    rw [wword, Hp.out]
                    dsimp only
                    rw [← e0, ← e1, ← e2, ← e3]
                  clear hx e0 e1 e2 e3
                  have s0 := hrw.cell (j := k) (by omega)
                  have f0 := hrw.frozen k
                  have Hwl := Lib.hid hwl
                  have Htk := Lib.hid htk
                  clear hwl htk
                  go_wp2
                  refine wp_region_quiet_sink 31 (by as_aux_lemma => kernel_rfl) (by as_aux_lemma => kernel_rfl) (by as_aux_lemma => kernel_rfl) ?_
                  simp only [List.take_succ_cons, List.take_zero, List.drop_succ_cons, List.drop_zero]
                  repeat (go_big_quiet_step (fail))
                  refine wpQuiet_nil ?_
                  rintro _ ⟨nq, rfl⟩
                  go_wp2
                  go_roundw
                  case rel =>
                    refine ⟨k + 1, by omega, by go_num, (hJ.drewN nq).set (by omega) (by omega) (by omega) k _, _, ?_, ?_, RowN.set (w := wr.drewN nq) hrw k _⟩
                    · rw [List.length_set]; exact Hwl.out
                    · have h1 := Hwl.out
                      have h2 := Htk.out
                      rw [List.take_add_one, List.take_set_of_le (by omega), h2, List.getElem?_set_self (by omega), wpre, if_pos hk16, Hx.out]
                      rfl
                  case measure => first | (simp [intOf]; done) | (simp [intOf]; omega)
                · by_cases hlt64 : k < 64
                  · --B
                    have c15 : (wr.cell? ⟨w3.heap.size, k - 15, none⟩) = some (.int .u32 (wl.getD (k - 15) 0)) := hrw.cell (by omega)
                    have c2 : (wr.cell? ⟨w3.heap.size, k - 2, none⟩) = some (.int .u32 (wl.getD (k - 2) 0)) := hrw.cell (by omega)
                    have c16 : (wr.cell? ⟨w3.heap.size, k - 16, none⟩) = some (.int .u32 (wl.getD (k - 16) 0)) := hrw.cell (by omega)
                    have c7 : (wr.cell? ⟨w3.heap.size, k - 7, none⟩) = some (.int .u32 (wl.getD (k - 7) 0)) := hrw.cell (by omega)
                    have s0 : (wr.cell? ⟨w3.heap.size, k, none⟩) = some (.int .u32 (wl.getD k 0)) := hrw.cell (by omega)
                    have f0 := hrw.frozen k
                    have Hwl := Lib.hid hwl
                    have Htk := Lib.hid htk
                    clear hwl htk
                    go_wp2
                    refine wp_region_quiet_sink 31 (by as_aux_lemma => kernel_rfl) (by as_aux_lemma => kernel_rfl) (by as_aux_lemma => kernel_rfl) ?_
                    simp only [List.take_succ_cons, List.take_zero, List.drop_succ_cons, List.drop_zero]
                    repeat (go_big_quiet_step (((go_at_call 54; refine (ror_any _ _ _ (by omega) (by omega)).mono ?_; rintro e w' ⟨rfl, m, rfl⟩; exact ⟨rfl, by first | exact ⟨_, World.drewN_drewN _ _ _⟩ | exact ⟨_, by rw [World.drewN_drewN, Nat.add_assoc]⟩⟩))))
                    refine wpQuiet_nil ?_
                    rintro _ ⟨nq, rfl⟩
                    go_wp2
                    go_roundw
                    case rel =>
                      refine ⟨k + 1, by omega, by go_num, (hJ.drewN nq).set (by omega) (by omega) (by omega) k _, _, ?_, ?_, RowN.set (w := wr.drewN nq) hrw k _⟩
                      · rw [List.length_set]; exact Hwl.out
                      · have h1 := Hwl.out
                        have h2 := Htk.out
                        rw [List.take_add_one, List.take_set_of_le (by omega), h2, List.getElem?_set_self (by omega), wpre, if_neg (by omega)]
                        rw [← h2, wnext_take wl k (by omega)]
                        rfl
                    case measure => first | (simp [intOf]; done) | (simp [intOf]; omega)
                  · --C
                    obtain rfl : k = 64 := by omega
                    have hW : wl = wpre p 64 := by rw [← htk, List.take_of_length_le (by omega)]
                    obtain ⟨wo, rfl⟩ : ∃ wo : World, wo = wr := ⟨_, rfl⟩
                    have hgwl := hrw.lt
                    have hghl := hJ.rh.lt
                    have hnews : ∀ o j u, (H.map (Value.int .u32))[j]? = some u → (wo.alloc o).cell? ((⟨gh, 0, none⟩ : Addr).add j) = some u := fun o j u hu => by
                      have hj : j < H.length := by
                        have := (List.getElem?_eq_some_iff.1 hu).1
                        simpa using this
                      rw [Addr.add_mid, Nat.zero_add, (hJ.alloc o).rh.cell hj]
                      simp [List.getD, hj] at hu ⊢
                      exact hu
                    have HW := Lib.hid hW
                    clear hW htk
                    go_wp2_with (first
                      | ((with_reducible show wpList _ _ _ (⟨some 145, _, _, _, _, _⟩ :: _) _ _); go_must (refine wpList_append_own _ rfl _ _ 91 rfl wo.heap.size 107 i4 (.int .u32 0) 1 4 und53 hi4 hy0 hy1 hy2 rfl (by decide) _ 0 [] rfl (World.ownsRow_made wo #[] 0 (Nat.le_refl _) (by decide) rfl) ⟨gh, 0, none⟩ 8 caph (H.map (Value.int .u32)) rfl (by rw [List.length_map, HHl.out]) (hnews _) (ints_oneCell _ _) (by decide) (by decide) (by simp) ?_; intro vv w5 hownv hgv _; simp only [Act.put, List.setIfInBounds_toArray, List.set_cons_zero, List.set_cons_succ])))
                    obtain ⟨gv, capv, rfl, hgvb, hcapv, hrv⟩ := RowN.of_owns hownv (by omega)
                    have hgvs := hgv.size
                    simp only [World.size_alloc] at hgvs
                    have hrowk : ∀ k, (Value.slice (some ⟨wo.heap.size, 0, none⟩) 0 0).ownBlock = some k → w.heap.size < k ∧ g ≠ k ∧ gh ≠ k := fun k hk => by
                      have := ((World.ownsRow_made wo #[] 0 (Nat.le_refl _) (by decide) rfl : World.ownsRow _ wo.heap.size 107 1 _ 0 []).lt k hk).1
                      have := hJ.gl
                      have := hJ.bl
                      omega
                    have hJ5 : SumJ W0 w.heap.size g gh M H w5 := (hJ.alloc _).grown hgv hrowk
                    have hrw5 : RowN w5 w3.heap.size 107 wl := (hrw.alloc _).grown hgv (fun e => by
                      have := ((World.ownsRow_made wo #[] 0 (Nat.le_refl _) (by decide) rfl : World.ownsRow _ wo.heap.size 107 1 _ 0 []).lt _ e.symm).1
                      omega)
                    clear hnews hgv hownv hrowk hJ hrw
                    simp only [Nat.zero_add]
                    go_loopw [15, 16] (fun u i wz => ∃ k : Nat, k ≤ 64 ∧ i = .int .i64 k ∧ SumJ W0 w.heap.size g gh M H wz ∧ RowN wz w3.heap.size 107 wl ∧ ∃ gv cv, u = .slice (some ⟨gv, 0, none⟩) 8 cv ∧ 8 ≤ cv ∧ w3.heap.size < gv ∧ RowN wz gv 107 (rounds wl H k)) (fun _ i _ => 64 - (intOf i).toNat)
                    case atStart => exact ⟨0, by omega, rfl, hJ5, hrw5, gv, capv, rfl, hcapv, by omega, hrv⟩
                    case round =>
                      clear hJ5 hrw5 hrv
                      obtain ⟨k, hk, rfl, hJ, hrw, gv, cv, rfl, hcv, hgv3, hs⟩ := hrel
                      by_cases hltk : k < 64
                      · --D
                        obtain ⟨a, b', c, d, e, f, g', h', hst⟩ := eight (rounds_length wl HHl.out k)
                        have Hst := Lib.hid hst
                        rw [hst] at hs
                        clear hst
                        have s0 := hs.cell (j := 0) (by simp)
                        have s1 := hs.cell (j := 1) (by simp)
                        have s2 := hs.cell (j := 2) (by simp)
                        have s3 := hs.cell (j := 3) (by simp)
                        have s4 := hs.cell (j := 4) (by simp)
                        have s5 := hs.cell (j := 5) (by simp)
                        have s6 := hs.cell (j := 6) (by simp)
                        have s7 := hs.cell (j := 7) (by simp)
                        simp only [List.getD_cons_zero, List.getD_cons_succ] at s0 s1 s2 s3 s4 s5 s6 s7
                        have cK : wr.cell? ⟨w.heap.size, 0, none⟩ = some (.slice (some ⟨bk, 0, none⟩) 64 64) := (hJ.below.cell (p := ⟨w.heap.size, 0, none⟩) (by simp)).trans Hx0.out
                        have ck := (Hk0.out.below hJ.below (by omega)).cell (j := k) (by rw [show k64.length = 64 from rfl]; omega)
                        have cw := hrw.cell (j := k) (by omega)
                        have Hwl := Lib.hid hwl
                        clear hwl
                        refine round_walk (B := w.heap.size) (bk := bk) (g3 := w3.heap.size) (gv := gv) (cv := cv) (k := k) (wr := wr) _ _ _ _ _ _ _ _ _ _ hltk hcv s0 s1 s2 s3 s4 s5 s6 s7 cK ck cw ?_
                        intros
                        dsimp only [Exit.then]
                        refine ⟨?_, ?measure⟩
                        iterate 40 (try (iterate 8 (apply Exists.intro)))
                        repeat apply Exists.intro
                        refine ⟨?rel, rfl⟩
                        case rel =>
                          refine ⟨k + 1, by omega, by go_num, (hJ.drewN _).alloc _, (hrw.drewN _).alloc _, wr.heap.size, 8, rfl, by decide, hrw.lt, ?_⟩
                          rw [show rounds wl H (k + 1) = rnd (k64.getD k 0) (wl.getD k 0) (rounds wl H k) from rfl, Hst.out]
                          exact RowN.of (Row32.new (wr.drewN _) 107 (rnd (k64.getD k 0) (wl.getD k 0) [a, b', c, d, e, f, g', h']))
                        case measure => first | (simp [intOf]; done) | (simp [intOf]; omega)
                      · --E
                        obtain rfl : k = 64 := by omega
                        obtain ⟨st, hst⟩ : ∃ st, st = rounds wl H 64 := ⟨_, rfl⟩
                        have hsl : st.length = 8 := by rw [hst]; exact rounds_length wl HHl.out 64
                        rw [← hst] at hs
                        have Hst := Lib.hid hst
                        have Hsl := Lib.hid hsl
                        have Hwl := Lib.hid hwl
                        clear hst hsl hwl
                        go_wp2
                        go_loopw [19] (fun u wz => ∃ k : Nat, k ≤ 8 ∧ u = .int .i64 k ∧ SumJ W0 w.heap.size g gh M (addk H st k) wz ∧ RowN wz w3.heap.size 107 wl ∧ RowN wz gv 107 st) (fun u _ => 8 - (intOf u).toNat)
                        case atStart => exact ⟨0, by omega, rfl, hJ, hrw, hs⟩
                        case round =>
                          clear hJ hrw hs
                          obtain ⟨k, hk, rfl, hJ, hrw, hs⟩ := hrel
                          by_cases hlt8 : k < 8
                          · have c0 := hJ.rh.cell (j := k) (by rw [addk_length, HHl.out]; omega)
                            have c1 := hs.cell (j := k) (by rw [Hsl.out]; omega)
                            have f0 := hJ.rh.frozen k
                            obtain ⟨x0, hx0⟩ : ∃ x, x = (addk H st k).getD k 0 := ⟨_, rfl⟩
                            obtain ⟨y0, hy0⟩ : ∃ y, y = st.getD k 0 := ⟨_, rfl⟩
                            rw [← hx0] at c0
                            rw [← hy0] at c1
                            have He : Hid (addk H st (k + 1) = (addk H st k).set k ((x0 + y0) % 4294967296)) := by
                              show addk H st (k + 1) = _
                              rw [hx0, hy0]
                              rfl
                            clear hx0 hy0
                            go_wp2
                            refine wp_region_quiet_sink 11 (by as_aux_lemma => kernel_rfl) (by as_aux_lemma => kernel_rfl) (by as_aux_lemma => kernel_rfl) ?_
                            simp only [List.take_succ_cons, List.take_zero, List.drop_succ_cons, List.drop_zero]
                            repeat (go_big_quiet_step (fail))
                            refine wpQuiet_nil ?_
                            rintro _ ⟨nq, rfl⟩
                            go_wp2
                            go_roundw
                            case rel =>
                              refine ⟨k + 1, by omega, by go_num, ?_, (hrw.drewN nq).other (by simp only; omega) _, (hs.drewN nq).other (by simp only; omega) _⟩
                              rw [He.out]
                              exact (hJ.drewN nq).seth (by omega) (by omega) k _
                            case measure => first | (simp [intOf]; done) | (simp [intOf]; omega)
                          · obtain rfl : k = 8 := by omega
                            have Hf : Hid (foldH M (t + 1) = addk H st 8) := by
                              show mixL (foldH M t) (fun j => M.getD (64 * t + j) 0) = _
                              rw [← HH.out, ← Hp.out, mixL, ← HW.out, ← Hst.out]
                            go_wp2
                            refine ⟨?_, ?measure⟩
                            iterate 40 (try (iterate 8 (apply Exists.intro)))
                            repeat apply Exists.intro
                            refine ⟨?rel, rfl⟩
                            case rel =>
                              refine ⟨t + 1, by omega, by go_num, ?_, wl, Hwl.out, hrw⟩
                              rw [Hf.out]
                              exact hJ
                            case measure => first | (simp [intOf]; done) | (simp [intOf]; omega)
            · --Z
              have ht8 : 64 * t = n + 8 := by omega
              obtain ⟨st, hst⟩ : ∃ st, st = foldH M t := ⟨_, rfl⟩
              have hsl : st.length = 8 := by rw [hst]; exact foldH_length M t
              have Hsl := Lib.hid hsl
              rw [← hst] at hJ
              have Hres : Hid (shaL (bytesOf s) = outB st 8) := by
                show shaL (bytesOf s) = outB st 8
                rw [shaL, ← HM.out, HML.out, show (n + 8) / 64 = t by omega, ← hst]
              clear hst hsl
              obtain ⟨wo, rfl⟩ : ∃ wo : World, wo = wr := ⟨_, rfl⟩
              have hgo := hJ.rh.lt
              have hbo := hJ.bl
              have hggo := hJ.gl
              go_wp2
              go_loopw [20, 21] (fun u i wz => ∃ k : Nat, k ≤ 8 ∧ i = .int .i64 k ∧ wz.ownsRow wo.heap.size 5 1 u (4 * k) (octets (outB st k)) ∧ SumJ W0 w.heap.size g gh M st wz ∧ wo.heap.size ≤ wz.heap.size) (fun _ i _ => 8 - (intOf i).toNat)
              case atStart => exact ⟨0, by omega, rfl, by simpa [outB, octets] using World.ownsRow_nil _ _ _ _, hJ, Nat.le_refl _⟩
              case round =>
                clear hJ hrw
                obtain ⟨k, hk, rfl, hown, hJ, hws⟩ := hrel
                obtain ⟨ao7, c7, rfl, hc7, _⟩ := owns_shape hown
                by_cases hlt8 : k < 8
                · have c0 := hJ.rh.cell (j := k) (by rw [Hsl.out]; omega)
                  obtain ⟨x0, hx0⟩ : ∃ x, x = st.getD k 0 := ⟨_, rfl⟩
                  rw [← hx0] at c0
                  have He : Hid (outB st (k + 1) = outB st k ++ [x0 / 16777216 % 256, x0 / 65536 % 256, x0 / 256 % 256, x0 % 256]) := by
                    show outB st (k + 1) = _
                    rw [hx0]
                    rfl
                  clear hx0
                  go_wp2
                  refine region_move_sink 23 (.tmp 20) (.slice ao7 (4 * k) c7) rfl rfl rfl (by as_aux_lemma => kernel_rfl) (by as_aux_lemma => kernel_rfl) (by as_aux_lemma => kernel_rfl) (by as_aux_lemma => kernel_rfl) (by as_aux_lemma => kernel_rfl) (by as_aux_lemma => kernel_rfl) (fun _ _ _ _ h => h) ?_
                  simp only [List.take_succ_cons, List.take_zero, List.drop_succ_cons, List.drop_zero, Act.put, List.setIfInBounds_toArray, List.set_cons_zero, List.set_cons_succ]
                  repeat (go_big_quiet_step (fail))
                  refine wpQuiet_nil ?_
                  rintro _ ⟨nq, rfl⟩
                  go_wp2_with ((with_reducible show wpList _ _ _ (⟨some 306, _, _, _, _, _⟩ :: _) _ _); go_must (refine wpList_append_bytes rfl _ _ 80 rfl wo.heap.size 5 i0 (.int .u8 0) und23 hi hz0 hz1 hz2 rfl _ _ (outB st k) [x0 / 16777216 % 256, x0 / 65536 % 256, x0 / 256 % 256, x0 % 256] rfl (World.ownsRow.alloc (w := wr.drewN nq) hown _) _ rfl (BytesAt.new (wr.drewN nq) 5 _ (by simp)) (by simp; omega) (by simp; omega) ?_; intro v8 w8 hown8 hg8 hn8; simp only [Act.put, List.setIfInBounds_toArray, List.set_cons_zero, List.set_cons_succ]))
                  go_roundw
                  case rel =>
                    refine ⟨k + 1, by omega, by go_num, ?_, ((hJ.drewN nq).alloc _).grown hg8 (fun k hk => ?_), ?_⟩
                    · rw [He.out, show 4 * (k + 1) = 4 * k + 4 by omega]; exact hown8
                    · have := (hown.lt k hk).1
                      omega
                    · have := hg8.size
                      simp at this
                      omega
                  case measure => first | (simp [intOf]; done) | (simp [intOf]; omega)
                · obtain rfl : k = 8 := by omega
                  rw [← Hres.out] at hown
                  go_wp2
                  go_ret
                  exact ⟨_, rfl, own_mono hown (by omega), hB0.trans (hJ.below.mono (by omega))⟩
    · have hjp : j < padN s.size := by
        rcases Nat.lt_or_ge j (padN s.size) with h | h
        · exact h
        · have : j = padN s.size := by omega
          subst this; omega
      obtain ⟨hp1, hp2⟩ := hp
      have Hp := Lib.hid hp1
      clear hp1
      go_wp2_with ((with_reducible show wpList _ _ _ (⟨some 36, _, _, _, _, _⟩ :: _) _ _); go_must (refine wpList_append_ownB rfl _ _ 80 rfl (w.heap.size + 1) 5 i0 (.int .u8 0) und23 hi hz0 hz1 hz2 rfl _ (preL (bytesOf s) j) [0] rfl (hown.alloc _) _ rfl (BytesAt.new wr 5 [0] (by simp)) (by simp) (by simp [preL_length, bytesOf_length]; omega) (by simp; omega) ?_; intro v4 w4 hown4 hg4; simp only [Act.put, List.setIfInBounds_toArray, List.set_cons_zero, List.set_cons_succ]))
      rw [preL_succ] at hown4
      obtain ⟨ao4, c4, hv, hc4⟩ := hown4.shape
      rw [preL_length, bytesOf_length] at hv hc4
      subst hv
      go_roundw
      case rel =>
        exact ⟨j + 1, by omega, hown4, (hb.alloc (by omega) _).grown hg4 (by simp; omega) (fun k hk => (hown.lt k hk).1)⟩
      case measure => simp [sliceLen]; omega
end Go.Proofs.YtkgbldkjpohinaaGreatDoor
