/- The walk of ProcSees. -/
import Derived.Test.YtmphnoabkmoafaaDoorSeesL
namespace Go.Proofs.YtmphnoabkmoafaaDoor
open Go.RowKit Go.Maps
set_option linter.unusedVariables false
/-- What the law's own memory holds. -/
structure SeesMem (w : World) (r d : Nat) (u : Value) : Prop where
  row : w.heap[r]? = some (.cells #[.string b11, .string b12, .string b19, .string b999] 9 (0, 0))
  box : w.heap[d]? = some (.cells #[u, .slice none 0 0] 43 (0, 0))
  ints : IntsAt w u [11]
theorem SeesMem.still {w w' : World} {r d : Nat} {u : Value} (h : SeesMem w r d u) (k : Still w w') : SeesMem w' r d u := ⟨k _ _ _ _ h.row (by decide), k _ _ _ _ h.box (by decide), h.ints.keep k.keep3⟩
def idAt (i : Nat) : ByteArray := if i = 0 then b11 else if i = 1 then b12 else if i = 2 then b19 else b999
/-- The state behind i of the four names. -/
def seesN (e : Bool) (s i : Nat) : Nat := if e then 0 else if i = 0 then 0 else 2 ^ s
theorem sees_sig (B T M : Nat) (bl : ByteArray → Nat) (e : Bool) (s i : Nat) (w : World) (h : TabAt w B T M bl (zL e (seesN e s i))) (h1 : 1 ≤ s) (h2 : s ≤ 15) (hi : i < 4) :
    Calls Tryd.prog 19 #[ptr T, .string oneB, .string (idAt i), .int .i64 s] w fun e' w' => e' = .returned (.int .i64 0) ∧ TabAt w' B T M bl (zL e (seesN e s (i + 1))) ∧ Bel B w w' := by
  have h0 : ofCode (zL e (seesN e s i)) oneB = 0 := by unfold ofCode; rw [zget1]; rfl
  by_cases h3 : i = 0
  · subst h3
    cases e
    · have := signal_live B T M bl _ oneB b11 s w zP1 (zA false 0) h (by decide) (by decide) (zget1 _ _) rfl h1 h2 (by kernel_rfl) (zgetA _ _) rfl zFine1 (zFineA _ _) (by kernel_rfl) (by decide) (by decide)
      rw [show sigP (zA false 0) s = zA false (2 ^ s) from by unfold sigP; simp [zA], show seesN false s 0 = 0 from rfl, zupd] at this
      exact this
    · exact signal_none B T M bl _ oneB b11 s w h (by decide) (by decide) h0 (by omega) (by omega) (by kernel_rfl) (by unfold noneLives; rw [zgetA]; rfl)
  · have en : seesN e s (i + 1) = seesN e s i := by unfold seesN; rw [if_neg h3, if_neg (Nat.succ_ne_zero i)]
    rw [en]
    obtain rfl | rfl | rfl : i = 1 ∨ i = 2 ∨ i = 3 := by omega
    · exact signal_none B T M bl _ oneB b12 s w h (by decide) (by decide) h0 (by omega) (by omega) (by kernel_rfl) (by unfold noneLives; rw [zgetB]; rfl)
    · exact signal_none B T M bl _ oneB b19 s w h (by decide) (by decide) h0 (by omega) (by omega) (by kernel_rfl) (by unfold noneLives; rw [zget_no _ _ _ (by decide) (by decide) (by decide)])
    · exact signal_none B T M bl _ oneB b999 s w h (by decide) (by decide) h0 (by omega) (by omega) (by kernel_rfl) (by unfold noneLives; rw [zget_no _ _ _ (by decide) (by decide) (by decide)])
theorem sees_grant (B T M : Nat) (bl : ByteArray → Nat) (e : Bool) (n i : Nat) (u : Value) (w : World) (h : TabAt w B T M bl (zL e n)) (hu : IntsAt w u [11]) (hi : i < 4) :
    Calls Tryd.prog 24 #[ptr T, .string oneB, .string (idAt i), .agg #[u, .slice none 0 0]] w fun e' w' => e' = .returned (.int .i64 0) ∧ TabAt w' B T M bl (zL e n) ∧ Bel B w w' := by
  have none1 : ∀ x, noneLives (zL e n) x = true → x.size ≤ 1000000000 → validB x = true → Calls Tryd.prog 24 #[ptr T, .string oneB, .string x, .agg #[u, .slice none 0 0]] w fun e' w' => e' = .returned (.int .i64 0) ∧ TabAt w' B T M bl (zL e n) ∧ Bel B w w' := fun x hx hs hv =>
    grant_none B T M bl _ oneB x u (.slice none 0 0) [11] [] w zP1 h (by decide) hs (zget1 _ _) rfl hv hx zFine1 hu (IntsAt.nil _) (by decide) (by decide) (by kernel_rfl) (by kernel_rfl)
  obtain rfl | rfl | rfl | rfl : i = 0 ∨ i = 1 ∨ i = 2 ∨ i = 3 := by omega
  · cases e
    · have := grant_live B T M bl _ oneB b11 u (.slice none 0 0) [11] [] w zP1 (zA false n) h (by decide) (by decide) (zget1 _ _) rfl (by kernel_rfl) (zgetA _ _) rfl zFine1 (zFineA _ _) (by kernel_rfl) hu (IntsAt.nil _) (by decide) (by decide) (by kernel_rfl) (by kernel_rfl) (by show (joinOk [11] [11] && joinOk [11] []) = true; rw [zok1, zok2]; rfl)
      rw [zmore, zupd] at this
      exact this
    · exact none1 b11 (by unfold noneLives; rw [zgetA]; rfl) (by decide) (by kernel_rfl)
  · exact none1 b12 (by unfold noneLives; rw [zgetB]; rfl) (by decide) (by kernel_rfl)
  · exact none1 b19 (by unfold noneLives; rw [zget_no _ _ _ (by decide) (by decide) (by decide)]) (by decide) (by kernel_rfl)
  · exact none1 b999 (by unfold noneLives; rw [zget_no _ _ _ (by decide) (by decide) (by decide)]) (by decide) (by kernel_rfl)
/-- What the last signal answers. -/
theorem sees_last (B T M : Nat) (bl : ByteArray → Nat) (e : Bool) (n s : Nat) (x : ByteArray) (w : World) (h : TabAt w B T M bl (zL e n)) (hn : n < 65536) (h1 : 1 ≤ s) (h2 : s ≤ 15) (hx : x.size ≤ 4611686018427387904) :
    Calls Tryd.prog 19 #[ptr T, .string oneB, .string x, .int .i64 s] w fun e' w' => e' = .returned (.int .i64 (if validB x then 0 else 1)) ∧ Bel B w w' := by
  have h0 : ofCode (zL e n) oneB = 0 := by unfold ofCode; rw [zget1]; rfl
  cases hv : validB x
  · exact (signal_arg B T M bl _ oneB x s w h (by decide) hx h0 (.inr hv)).mono (by rintro e' w' ⟨rfl, _, hb⟩; exact ⟨rfl, hb⟩)
  · have hs : x.size ≤ 15 := by
      rw [valid_good] at hv
      simp only [Bool.and_eq_true, decide_eq_true_eq] at hv
      exact hv.2
    by_cases hnl : noneLives (zL e n) x = true
    · exact (signal_none B T M bl _ oneB x s w h (by decide) (by omega) h0 (by omega) (by omega) hv hnl).mono (by rintro e' w' ⟨rfl, _, hb⟩; exact ⟨rfl, hb⟩)
    · have hcase : (x = oneB) ∨ (x = b11 ∧ e = false) := by
        by_cases k1 : x = oneB
        · exact .inl k1
        · by_cases k2 : x = b11
          · subst k2
            refine .inr ⟨rfl, ?_⟩
            cases e
            · rfl
            · exact absurd (by unfold noneLives; rw [zgetA]; rfl) hnl
          · by_cases k3 : x = b12
            · subst k3
              exact absurd (by unfold noneLives; rw [zgetB]; rfl) hnl
            · exact absurd (by unfold noneLives; rw [zget_no _ _ _ k1 k2 k3]) hnl
      rcases hcase with rfl | ⟨rfl, rfl⟩
      · exact (signal_live B T M bl _ oneB oneB s w zP1 zP1 h (by decide) (by decide) (zget1 _ _) rfl h1 h2 hv (zget1 _ _) rfl zFine1 zFine1 (by kernel_rfl) (by decide) (by decide)).mono (by rintro e' w' ⟨rfl, _, hb⟩; exact ⟨rfl, hb⟩)
      · exact (signal_live B T M bl _ oneB b11 s w zP1 (zA false n) h (by decide) (by decide) (zget1 _ _) rfl h1 h2 hv (zgetA _ _) rfl zFine1 (zFineA _ _) (by kernel_rfl) (by show (0 : Int) ≤ (n : Int); omega) (by show (n : Int) < 65536; omega)).mono (by rintro e' w' ⟨rfl, _, hb⟩; exact ⟨rfl, hb⟩)
/-- What is pending behind the four. -/
theorem sees_pend (B T M : Nat) (bl : ByteArray → Nat) (e : Bool) (s : Nat) (w : World) (h : TabAt w B T M bl (zL e (seesN e s 4))) (h1 : 1 ≤ s) (h2 : s ≤ 15) (hT : _root_.Go.Proofs.TabAt 1 Lib.deBruijn64tab w) (h3 : 1 < w.heap.size) :
    Calls Tryd.prog 21 #[ptr T, .string b11] w fun e' w' => ∃ n, e' = .returned (.tuple #[.int .i64 (if e then 0 else (s : Int)), .bool (!e)]) ∧ TabAt w' B T M bl (zL e n) ∧ n < 65536 ∧ Bel B w w' := by
  cases e
  · have hp : (2 : Nat) ^ s < 65536 := Nat.lt_of_le_of_lt (Nat.pow_le_pow_right (n := 2) (by omega) h2) (by decide)
    have hb : ∀ k, k < 64 → (takeN (2 ^ s) 0).testBit k = decide (s = k) := fun k hk => by
      rw [take_bit _ _ _ hk, show bitOf 0 k = false from by unfold bitOf; simp, Nat.testBit_two_pow]
      simp
    have := pending_some B T M bl _ b11 w (zA false (2 ^ s)) h (by decide) (zgetA _ _) rfl (Int.natCast_nonneg (2 ^ s)) (show ((2 ^ s : Nat) : Int) < ((65536 : Nat) : Int) from Int.ofNat_lt.2 hp) s (by show (takeN ((2 ^ s : Nat) : Int).toNat 0).testBit s = true; rw [Int.toNat_natCast, hb s (by omega)]; simp) (fun k hk => by show (takeN ((2 ^ s : Nat) : Int).toNat 0).testBit k = false; rw [Int.toNat_natCast, hb k (by omega)]; simp; omega) hT h3
    rw [show pendP (zA false (2 ^ s)) s = zA false (clearN (2 ^ s) s) from by (show ({ zA false (2 ^ s) with pending := ((clearN ((2 ^ s : Nat) : Int).toNat s : Nat) : Int) } : PR) = _; rw [Int.toNat_natCast]; rfl), show seesN false s 4 = 2 ^ s from rfl, zupd] at this
    refine this.mono ?_
    rintro e' w' ⟨rfl, t, hb⟩
    exact ⟨clearN (2 ^ s) s, rfl, t, by have := clearN_le (2 ^ s) s hp; omega, hb⟩
  · refine (pending_no B T M bl _ b11 w h (by decide) (by unfold ofCode; rw [zgetA]; simp [zA])).mono ?_
    rintro e' w' ⟨rfl, rfl⟩
    exact ⟨0, rfl, h, by omega, Bel.refl _ _⟩
theorem row_idAt {i : Nat} (hi : i < 4) : (#[Value.string b11, .string b12, .string b19, .string b999] : Array Value)[i]? = some (.string (idAt i)) := by
  obtain rfl | rfl | rfl | rfl : i = 0 ∨ i = 1 ∨ i = 2 ∨ i = 3 := by omega
  · rfl
  · rfl
  · rfl
  · rfl
set_option maxRecDepth 100000 in
set_option maxHeartbeats 4000000 in
theorem sees_any (e : Bool) (sig : Int) (other : ByteArray) (w : World) (hs : other.size ≤ 140737488355328) (hw1 : -9223372036854775808 ≤ sig) (hw2 : sig ≤ 9223372036854775807) (hz : _root_.Go.Proofs.TabAt 1 Lib.deBruijn64tab w) (h1 : 1 < w.heap.size) :
    Calls Tryd.prog 9 #[.bool e, .int .i64 sig, .string other] w fun e w' => e = .returned (.bool true) ∧ Below w.heap.size w w' := by
  have c0 := new_ok 20 w (by omega) (by omega)
  have X0 := Lib.hid c0
  have X1 : Hid (∀ w1 B T M bl, TabAt w1 B T M bl [firstP 20] → Calls Tryd.prog 11 #[.pointer (some ⟨T, 0, none⟩), .string ⟨#[49]⟩] w1 fun e w' => e = .returned (.tuple #[.int .i64 11, .int .i64 0]) ∧ TabAt w' B T M bl zT ∧ Bel B w1 w') := fun w1 B T M bl h => tagK_call (tagK1_eq zT_eq) h
  have X2 : Hid (∀ w1 B T M bl, TabAt w1 B T M bl zT → Calls Tryd.prog 13 #[.pointer (some ⟨T, 0, none⟩), .string ⟨#[49]⟩, .int .i64 2] w1 fun e w' => ∃ bl', e = .returned (.tuple #[.string b11, .int .i64 0]) ∧ TabAt w' B T M bl' zF1 ∧ Bel B w1 w') := fun w1 B T M bl h => forkK_call zF1_eq h
  have X3 : Hid (∀ w1 B T M bl, TabAt w1 B T M bl zF1 → Calls Tryd.prog 13 #[.pointer (some ⟨T, 0, none⟩), .string ⟨#[49]⟩, .int .i64 2] w1 fun e w' => ∃ bl', e = .returned (.tuple #[.string b12, .int .i64 0]) ∧ TabAt w' B T M bl' zF2 ∧ Bel B w1 w') := fun w1 B T M bl h => forkK_call zF2_eq h
  have X4 : Hid (∀ w1 B T M bl vS, TabAt w1 B T M bl zF2 → IntsAt w1 vS [11] → Calls Tryd.prog 22 #[.pointer (some ⟨T, 0, none⟩), .string b11, .agg #[vS, .slice none 0 0]] w1 fun e w' => e = .returned (.int .i64 0) ∧ TabAt w' B T M bl zC ∧ Bel B w1 w') := fun w1 B T M bl vS h k => changeK_call zC_eq h k (IntsAt.nil _)
  have X5 : Hid (∀ w1 B T M bl, TabAt w1 B T M bl zC → Calls Tryd.prog 16 #[.pointer (some ⟨T, 0, none⟩), .string b12, .int .i64 3] w1 fun e w' => e = .returned (.int .i64 0) ∧ TabAt w' B T M bl (zL false 0) ∧ Bel B w1 w') := fun w1 B T M bl h => exitK_call zE_eq h
  have X6 : Hid (∀ w1 B T M bl, TabAt w1 B T M bl (zL false 0) → Calls Tryd.prog 16 #[.pointer (some ⟨T, 0, none⟩), .string b11, .int .i64 4] w1 fun e w' => e = .returned (.int .i64 0) ∧ TabAt w' B T M bl (zL true 0) ∧ Bel B w1 w') := fun w1 B T M bl h => exitK_call zE2_eq h
  have HZ := Lib.hid hz
  clear c0 hz
  unfold ptr at X0
  obtain ⟨s, hsig, hs1, hs2⟩ : ∃ s : Nat, wrap64 ((wrap64 (sig.tmod 15 + 15)).tmod 15 + 1) = (s : Int) ∧ 1 ≤ s ∧ s ≤ 15 := by
    have k1 := Int.tmod_lt_of_pos sig (show (0 : Int) < 15 by decide)
    have k2 := Int.lt_tmod_of_pos sig (show (0 : Int) < 15 by decide)
    generalize sig.tmod 15 = y at *
    have e1 : wrap64 (y + 15) = y + 15 := by unfold wrap64; omega
    rw [e1, Int.tmod_eq_emod_of_nonneg (by omega)]
    have k3 : 0 ≤ (y + 15) % 15 := Int.emod_nonneg _ (by decide)
    have k4 : (y + 15) % 15 < 15 := Int.emod_lt_of_pos _ (by decide)
    refine ⟨((y + 15) % 15 + 1).toNat, ?_, by omega, by omega⟩
    unfold wrap64
    omega
  have HSIG := Lib.hid hsig
  clear hsig hw1 hw2
  cases e
  · go_enter Tryd.func9, Tryd.ntmps9
    obtain ⟨G0⟩ : Nonempty Nat := ⟨0⟩
    go_wp2_with (first
      | (go_at_call 10; refine X0.out.mono ?_; rintro e w1 ⟨T, M, bl, rfl, t1, b1⟩; have H1 := Lib.hid t1; have B1 := Lib.hid b1; clear t1 b1)
      | (go_at_call 11; refine (X1.out _ _ _ _ _ H1.out).mono ?_; rintro e w2 ⟨rfl, t2, b2⟩; have H2 := Lib.hid t2; have B2 := Lib.hid (B1.out.trans b2.toBelow); clear t2 b2)
      | (go_at_call 13; have G1 := G0; clear G0; refine (X2.out _ _ _ _ _ H2.out).mono ?_; rintro e w3 ⟨bl3, rfl, t3, b3⟩; have H3 := Lib.hid t3; have B3 := Lib.hid (B2.out.trans b3.toBelow); clear t3 b3)
      | (go_at_call 13; have G2 := G1; clear G1; refine (X3.out _ _ _ _ _ H3.out).mono ?_; rintro e w4 ⟨bl4, rfl, t4, b4⟩; have A4 : Hid (Below w4.heap.size w4 (w4.alloc (.cells #[Value.int .i64 11] 3))) := (Below.refl _ _).alloc (Nat.le_refl _) _; have H4 := Lib.hid (t4.below A4.out); have B4 := Lib.hid (B3.out.trans b4.toBelow); have B4' := Lib.hid (B4.out.trans (A4.out.mono B4.out.size)); clear t4 b4)
      | (go_at_call 22; refine (X4.out _ _ _ _ _ _ H4.out (IntsAt.new w4 3 [11] (by simp))).mono ?_; rintro e w5 ⟨rfl, t5, b5⟩; have H5 := Lib.hid t5; have B5 := Lib.hid (B4'.out.trans b5.toBelow); clear t5 b5)
      | (go_at_call 16; have G3 := G2; clear G2; refine (X5.out _ _ _ _ _ H5.out).mono ?_; rintro e w6 ⟨rfl, t6, b6⟩; have H6 := Lib.hid t6; have B6 := Lib.hid (B5.out.trans b6.toBelow); clear t6 b6)
      | (go_at_call 16; have G4 := G3; clear G3; refine (X6.out _ _ _ _ _ H6.out).mono ?_; rintro e w7 ⟨rfl, t7, b7⟩; have H7 := Lib.hid t7; have B7 := Lib.hid (B6.out.trans b7.toBelow); clear t7 b7))
    rw [HSIG.out]
    have hal : Below w6.heap.size w6 (((w6.alloc (Obj.cells #[Value.int IntKind.i64 11] 3)).alloc (Obj.cells #[Value.slice (some ⟨w6.heap.size, 0, none⟩) 1 1, Value.slice none 0 0] 43)).alloc (Obj.cells #[Value.string b11, Value.string b12, Value.string ⟨#[49, 46, 57]⟩, Value.string ⟨#[57, 46, 57, 46, 57]⟩] 9)) := (((Below.refl _ _).alloc (Nat.le_refl _) _).alloc (by simp) _).alloc (by simp; omega) _
    obtain ⟨W8, hW8⟩ : ∃ W8, W8 = ((w6.alloc (Obj.cells #[Value.int IntKind.i64 11] 3)).alloc (Obj.cells #[Value.slice (some ⟨w6.heap.size, 0, none⟩) 1 1, Value.slice none 0 0] 43)).alloc (Obj.cells #[Value.string b11, Value.string b12, Value.string ⟨#[49, 46, 57]⟩, Value.string ⟨#[57, 46, 57, 46, 57]⟩] 9) := ⟨_, rfl⟩
    rw [← hW8] at hal
    have SM : SeesMem W8 (w6.heap.size + 2) (w6.heap.size + 1) (.slice (some ⟨w6.heap.size, 0, none⟩) 1 1) := by
      have i0 := IntsAt.new w6 3 [11] (by simp)
      obtain ⟨w1', e1⟩ : ∃ w1', w1' = w6.alloc (Obj.cells #[Value.int IntKind.i64 11] 3) := ⟨_, rfl⟩
      obtain ⟨w2', e2⟩ : ∃ w2', w2' = w1'.alloc (Obj.cells #[Value.slice (some ⟨w6.heap.size, 0, none⟩) 1 1, Value.slice none 0 0] 43) := ⟨_, rfl⟩
      have s1 : w1'.heap.size = w6.heap.size + 1 := by rw [e1]; simp
      have s2 : w2'.heap.size = w6.heap.size + 2 := by rw [e2]; simp [s1]
      rw [← e1, ← e2] at hW8
      have i0' : IntsAt w1' (.slice (some ⟨w6.heap.size, 0, none⟩) 1 1) [11] := by rw [e1]; exact i0
      have k1 : Below w1'.heap.size w1' w2' := by rw [e2]; exact (Below.refl _ _).alloc (Nat.le_refl _) _
      have k2 : Below w2'.heap.size w2' W8 := by rw [hW8]; exact (Below.refl _ _).alloc (Nat.le_refl _) _
      refine ⟨?_, ?_, (i0'.below k1 (Nat.le_refl _)).below k2 (Nat.le_refl _)⟩
      · rw [hW8, ← s2]; exact heap_alloc_new w2' _
      · rw [k2.block _ (by omega), ← s1, e2]; exact heap_alloc_new w1' _
    have T8 := Lib.hid (H6.out.below hal)
    have B8 := Lib.hid (B6.out.trans (hal.mono B6.out.size))
    have SM8 := Lib.hid SM
    rw [← hW8]
    obtain ⟨u, hu⟩ : ∃ u, u = Value.slice (some ⟨w6.heap.size, 0, none⟩) 1 1 := ⟨_, rfl⟩
    obtain ⟨r, hr⟩ : ∃ r, r = w6.heap.size + 2 := ⟨_, rfl⟩
    obtain ⟨d, hd⟩ : ∃ d, d = w6.heap.size + 1 := ⟨_, rfl⟩
    rw [← hr, ← hd] at SM8 ⊢
    clear hal SM hr hd hW8 hu
    go_loopw [17, 92] (fun _ vi wr => ∃ i : Nat, vi = .int .i64 i ∧ i ≤ 4 ∧ SeesMem wr r d (.slice (some ⟨w6.heap.size, 0, none⟩) 1 1) ∧ TabAt wr w.heap.size T M bl4 (zL false (seesN false s i)) ∧ Below w.heap.size w wr) (fun _ vi _ => 4 - (intOf vi).toNat)
    case atStart => exact ⟨0, rfl, by omega, SM8.out, T8.out, B8.out⟩
    case round =>
      obtain ⟨i, rfl, hi4, hM, hT, hB⟩ := hrel
      by_cases hi : i < 4
      · have z0 : wr.cell? ⟨r, i, none⟩ = some (.string (idAt i)) := by rw [cell_of_row wr r i _ 9 (0, 0) hM.row]; exact row_idAt hi
        have K1 : Hid (Calls Tryd.prog 19 #[.pointer (some ⟨T, 0, none⟩), .string oneB, .string (idAt i), .int .i64 s] wr fun e' w' => e' = .returned (.int .i64 0) ∧ TabAt w' w.heap.size T M bl4 (zL false (seesN false s (i + 1))) ∧ Bel w.heap.size wr w') := sees_sig w.heap.size T M bl4 false s i wr hT hs1 hs2 hi
        have K2 : Hid (∀ w1 u, TabAt w1 w.heap.size T M bl4 (zL false (seesN false s (i + 1))) → IntsAt w1 u [11] → Calls Tryd.prog 24 #[.pointer (some ⟨T, 0, none⟩), .string oneB, .string (idAt i), .agg #[u, .slice none 0 0]] w1 fun e' w' => e' = .returned (.int .i64 0) ∧ TabAt w' w.heap.size T M bl4 (zL false (seesN false s (i + 1))) ∧ Bel w.heap.size w1 w') := fun w1 u h hu => sees_grant w.heap.size T M bl4 false _ i u w1 h hu hi
        have HM := Lib.hid hM
        have HB := Lib.hid hB
        clear hM hT hB
        generalize idAt i = x at *
        go_wp2_with (first
          | (go_at_call 19; refine K1.out.mono ?_; rintro e w9 ⟨rfl, t9, b9⟩; have M9 := Lib.hid (HM.out.still b9.still); have H9 := Lib.hid t9; have y0 : w9.cell? ⟨d, 0, none⟩ = some (.slice (some ⟨w6.heap.size, 0, none⟩) 1 1) := (by rw [cell_of_row w9 d 0 _ 43 (0, 0) M9.out.box]; rfl); have y1 : w9.cell? ⟨d, 1, none⟩ = some (.slice none 0 0) := (by rw [cell_of_row w9 d 1 _ 43 (0, 0) M9.out.box]; rfl); have B9 := Lib.hid (HB.out.trans b9.toBelow); clear t9 b9)
          | (go_at_call 24; refine (K2.out _ _ H9.out M9.out.ints).mono ?_; rintro e w10 ⟨rfl, t10, b10⟩))
        go_roundw
        case rel => exact ⟨i + 1, by push_cast; rfl, by omega, M9.out.still b10.still, t10, B9.out.trans b10.toBelow⟩
        case measure => simp [intOf]; omega
      · obtain rfl : i = 4 := by omega
        have K3 : Hid (Calls Tryd.prog 21 #[.pointer (some ⟨T, 0, none⟩), .string b11] wr fun e' w' => ∃ n, e' = .returned (.tuple #[.int .i64 (if false then 0 else (s : Int)), .bool (!false)]) ∧ TabAt w' w.heap.size T M bl4 (zL false n) ∧ n < 65536 ∧ Bel w.heap.size wr w') := sees_pend w.heap.size T M bl4 false s wr hT hs1 hs2 (tab_below HZ.out hB h1) (by have := hB.size; omega)
        have HB := Lib.hid hB
        clear hM hT hB
        go_wp2_with (go_at_call 21; refine K3.out.mono ?_; rintro e w11 ⟨n, rfl, t11, hn, b11'⟩)
        have T11 := Lib.hid t11
        have B11 := Lib.hid (HB.out.trans b11'.toBelow)
        clear t11 b11'
        go_loopw [20, 21] (fun vg vi wr => ∃ i : Nat, vi = .int .i64 i ∧ i ≤ other.size ∧ vg = .bool (goodTo other i) ∧ wr = w11) (fun _ vi _ => other.size - (intOf vi).toNat)
        case atStart => exact ⟨0, rfl, by omega, rfl, rfl⟩
        case round =>
          obtain ⟨i, rfl, hi1, rfl, rfl⟩ := hrel
          by_cases hi : i < other.size
          · have hq : goodTo other (i + 1) = (goodTo other i && (if i % 2 = 0 then decide (49 ≤ (other[i]'hi).toNat) && decide ((other[i]'hi).toNat ≤ 57) else decide ((other[i]'hi).toNat = 46))) := by
              show (goodTo other i && _) = _
              rw [dif_pos hi]
            have HQ := Lib.hid hq
            clear hq
            go_wp2
            all_goals
              refine ⟨⟨i + 1, by push_cast; rfl, by omega, ?_, trivial⟩, by simp [intOf]; omega⟩
              rw [HQ.out]
              clear HQ
              generalize hc : (other[i]'hi).toNat = c at *
              by_cases k0 : i % 2 = 0 <;> by_cases k1 : 49 ≤ c <;> by_cases k2 : c ≤ 57 <;> by_cases k3 : c = 46 <;> first | (exfalso; omega) | (simp [*]; done) | (simp [*]; omega)
          · obtain rfl : i = other.size := by omega
            have K4 : Hid (Calls Tryd.prog 19 #[.pointer (some ⟨T, 0, none⟩), .string oneB, .string other, .int .i64 s] wr fun e' w' => e' = .returned (.int .i64 (if validB other then 0 else 1)) ∧ Bel w.heap.size wr w') := sees_last w.heap.size T M bl4 false n s other wr T11.out hn hs1 hs2 (by omega)
            have hv := valid_good other
            generalize validB other = V at *
            generalize goodTo other other.size = G at *
            have hes : false = false := rfl
            by_cases hodd : other.size % 2 = 1
            · by_cases h15 : other.size ≤ 15
              · rw [decide_eq_true hodd, decide_eq_true h15, Bool.and_true, Bool.and_true] at hv
                subst hv
                cases V
                · go_wp2_with (first
                    | (go_at_call 19; refine K4.out.mono ?_; rintro e w12 ⟨rfl, b12'⟩; have B12 := Lib.hid (B11.out.trans b12'.toBelow))
                    | (go_at_call 15; refine (awake_any _).mono ?_; rintro e w13 ⟨rfl, b13⟩))
                  go_ret
                  exact ⟨rfl, B12.out.trans (b13.mono B12.out.size)⟩
                · go_wp2_with (first
                    | (go_at_call 19; refine K4.out.mono ?_; rintro e w12 ⟨rfl, b12'⟩; have B12 := Lib.hid (B11.out.trans b12'.toBelow))
                    | (go_at_call 15; refine (awake_any _).mono ?_; rintro e w13 ⟨rfl, b13⟩))
                  go_ret
                  exact ⟨rfl, B12.out.trans (b13.mono B12.out.size)⟩
              · rw [decide_eq_false h15, Bool.and_false] at hv
                subst hv
                cases G
                · go_wp2_with (first
                    | (go_at_call 19; refine K4.out.mono ?_; rintro e w12 ⟨rfl, b12'⟩; have B12 := Lib.hid (B11.out.trans b12'.toBelow))
                    | (go_at_call 15; refine (awake_any _).mono ?_; rintro e w13 ⟨rfl, b13⟩))
                  go_ret
                  exact ⟨rfl, B12.out.trans (b13.mono B12.out.size)⟩
                · go_wp2_with (first
                    | (go_at_call 19; refine K4.out.mono ?_; rintro e w12 ⟨rfl, b12'⟩; have B12 := Lib.hid (B11.out.trans b12'.toBelow))
                    | (go_at_call 15; refine (awake_any _).mono ?_; rintro e w13 ⟨rfl, b13⟩))
                  go_ret
                  exact ⟨rfl, B12.out.trans (b13.mono B12.out.size)⟩
            · rw [decide_eq_false hodd, Bool.and_false, Bool.false_and] at hv
              subst hv
              cases G
              · go_wp2_with (first
                  | (go_at_call 19; refine K4.out.mono ?_; rintro e w12 ⟨rfl, b12'⟩; have B12 := Lib.hid (B11.out.trans b12'.toBelow))
                  | (go_at_call 15; refine (awake_any _).mono ?_; rintro e w13 ⟨rfl, b13⟩))
                go_ret
                exact ⟨rfl, B12.out.trans (b13.mono B12.out.size)⟩
              · go_wp2_with (first
                  | (go_at_call 19; refine K4.out.mono ?_; rintro e w12 ⟨rfl, b12'⟩; have B12 := Lib.hid (B11.out.trans b12'.toBelow))
                  | (go_at_call 15; refine (awake_any _).mono ?_; rintro e w13 ⟨rfl, b13⟩))
                go_ret
                exact ⟨rfl, B12.out.trans (b13.mono B12.out.size)⟩
  · go_enter Tryd.func9, Tryd.ntmps9
    obtain ⟨G0⟩ : Nonempty Nat := ⟨0⟩
    go_wp2_with (first
      | (go_at_call 10; refine X0.out.mono ?_; rintro e w1 ⟨T, M, bl, rfl, t1, b1⟩; have H1 := Lib.hid t1; have B1 := Lib.hid b1; clear t1 b1)
      | (go_at_call 11; refine (X1.out _ _ _ _ _ H1.out).mono ?_; rintro e w2 ⟨rfl, t2, b2⟩; have H2 := Lib.hid t2; have B2 := Lib.hid (B1.out.trans b2.toBelow); clear t2 b2)
      | (go_at_call 13; have G1 := G0; clear G0; refine (X2.out _ _ _ _ _ H2.out).mono ?_; rintro e w3 ⟨bl3, rfl, t3, b3⟩; have H3 := Lib.hid t3; have B3 := Lib.hid (B2.out.trans b3.toBelow); clear t3 b3)
      | (go_at_call 13; have G2 := G1; clear G1; refine (X3.out _ _ _ _ _ H3.out).mono ?_; rintro e w4 ⟨bl4, rfl, t4, b4⟩; have A4 : Hid (Below w4.heap.size w4 (w4.alloc (.cells #[Value.int .i64 11] 3))) := (Below.refl _ _).alloc (Nat.le_refl _) _; have H4 := Lib.hid (t4.below A4.out); have B4 := Lib.hid (B3.out.trans b4.toBelow); have B4' := Lib.hid (B4.out.trans (A4.out.mono B4.out.size)); clear t4 b4)
      | (go_at_call 22; refine (X4.out _ _ _ _ _ _ H4.out (IntsAt.new w4 3 [11] (by simp))).mono ?_; rintro e w5 ⟨rfl, t5, b5⟩; have H5 := Lib.hid t5; have B5 := Lib.hid (B4'.out.trans b5.toBelow); clear t5 b5)
      | (go_at_call 16; have G3 := G2; clear G2; refine (X5.out _ _ _ _ _ H5.out).mono ?_; rintro e w6 ⟨rfl, t6, b6⟩; have H6 := Lib.hid t6; have B6 := Lib.hid (B5.out.trans b6.toBelow); clear t6 b6)
      | (go_at_call 16; have G4 := G3; clear G3; refine (X6.out _ _ _ _ _ H6.out).mono ?_; rintro e w7 ⟨rfl, t7, b7⟩; have H7 := Lib.hid t7; have B7 := Lib.hid (B6.out.trans b7.toBelow); clear t7 b7))
    rw [HSIG.out]
    have hal : Below w7.heap.size w7 (((w7.alloc (Obj.cells #[Value.int IntKind.i64 11] 3)).alloc (Obj.cells #[Value.slice (some ⟨w7.heap.size, 0, none⟩) 1 1, Value.slice none 0 0] 43)).alloc (Obj.cells #[Value.string b11, Value.string b12, Value.string ⟨#[49, 46, 57]⟩, Value.string ⟨#[57, 46, 57, 46, 57]⟩] 9)) := (((Below.refl _ _).alloc (Nat.le_refl _) _).alloc (by simp) _).alloc (by simp; omega) _
    obtain ⟨W8, hW8⟩ : ∃ W8, W8 = ((w7.alloc (Obj.cells #[Value.int IntKind.i64 11] 3)).alloc (Obj.cells #[Value.slice (some ⟨w7.heap.size, 0, none⟩) 1 1, Value.slice none 0 0] 43)).alloc (Obj.cells #[Value.string b11, Value.string b12, Value.string ⟨#[49, 46, 57]⟩, Value.string ⟨#[57, 46, 57, 46, 57]⟩] 9) := ⟨_, rfl⟩
    rw [← hW8] at hal
    have SM : SeesMem W8 (w7.heap.size + 2) (w7.heap.size + 1) (.slice (some ⟨w7.heap.size, 0, none⟩) 1 1) := by
      have i0 := IntsAt.new w7 3 [11] (by simp)
      obtain ⟨w1', e1⟩ : ∃ w1', w1' = w7.alloc (Obj.cells #[Value.int IntKind.i64 11] 3) := ⟨_, rfl⟩
      obtain ⟨w2', e2⟩ : ∃ w2', w2' = w1'.alloc (Obj.cells #[Value.slice (some ⟨w7.heap.size, 0, none⟩) 1 1, Value.slice none 0 0] 43) := ⟨_, rfl⟩
      have s1 : w1'.heap.size = w7.heap.size + 1 := by rw [e1]; simp
      have s2 : w2'.heap.size = w7.heap.size + 2 := by rw [e2]; simp [s1]
      rw [← e1, ← e2] at hW8
      have i0' : IntsAt w1' (.slice (some ⟨w7.heap.size, 0, none⟩) 1 1) [11] := by rw [e1]; exact i0
      have k1 : Below w1'.heap.size w1' w2' := by rw [e2]; exact (Below.refl _ _).alloc (Nat.le_refl _) _
      have k2 : Below w2'.heap.size w2' W8 := by rw [hW8]; exact (Below.refl _ _).alloc (Nat.le_refl _) _
      refine ⟨?_, ?_, (i0'.below k1 (Nat.le_refl _)).below k2 (Nat.le_refl _)⟩
      · rw [hW8, ← s2]; exact heap_alloc_new w2' _
      · rw [k2.block _ (by omega), ← s1, e2]; exact heap_alloc_new w1' _
    have T8 := Lib.hid (H7.out.below hal)
    have B8 := Lib.hid (B7.out.trans (hal.mono B7.out.size))
    have SM8 := Lib.hid SM
    rw [← hW8]
    obtain ⟨u, hu⟩ : ∃ u, u = Value.slice (some ⟨w7.heap.size, 0, none⟩) 1 1 := ⟨_, rfl⟩
    obtain ⟨r, hr⟩ : ∃ r, r = w7.heap.size + 2 := ⟨_, rfl⟩
    obtain ⟨d, hd⟩ : ∃ d, d = w7.heap.size + 1 := ⟨_, rfl⟩
    rw [← hr, ← hd] at SM8 ⊢
    clear hal SM hr hd hW8 hu
    go_loopw [17, 92] (fun _ vi wr => ∃ i : Nat, vi = .int .i64 i ∧ i ≤ 4 ∧ SeesMem wr r d (.slice (some ⟨w7.heap.size, 0, none⟩) 1 1) ∧ TabAt wr w.heap.size T M bl4 (zL true (seesN true s i)) ∧ Below w.heap.size w wr) (fun _ vi _ => 4 - (intOf vi).toNat)
    case atStart => exact ⟨0, rfl, by omega, SM8.out, T8.out, B8.out⟩
    case round =>
      obtain ⟨i, rfl, hi4, hM, hT, hB⟩ := hrel
      by_cases hi : i < 4
      · have z0 : wr.cell? ⟨r, i, none⟩ = some (.string (idAt i)) := by rw [cell_of_row wr r i _ 9 (0, 0) hM.row]; exact row_idAt hi
        have K1 : Hid (Calls Tryd.prog 19 #[.pointer (some ⟨T, 0, none⟩), .string oneB, .string (idAt i), .int .i64 s] wr fun e' w' => e' = .returned (.int .i64 0) ∧ TabAt w' w.heap.size T M bl4 (zL true (seesN true s (i + 1))) ∧ Bel w.heap.size wr w') := sees_sig w.heap.size T M bl4 true s i wr hT hs1 hs2 hi
        have K2 : Hid (∀ w1 u, TabAt w1 w.heap.size T M bl4 (zL true (seesN true s (i + 1))) → IntsAt w1 u [11] → Calls Tryd.prog 24 #[.pointer (some ⟨T, 0, none⟩), .string oneB, .string (idAt i), .agg #[u, .slice none 0 0]] w1 fun e' w' => e' = .returned (.int .i64 0) ∧ TabAt w' w.heap.size T M bl4 (zL true (seesN true s (i + 1))) ∧ Bel w.heap.size w1 w') := fun w1 u h hu => sees_grant w.heap.size T M bl4 true _ i u w1 h hu hi
        have HM := Lib.hid hM
        have HB := Lib.hid hB
        clear hM hT hB
        generalize idAt i = x at *
        go_wp2_with (first
          | (go_at_call 19; refine K1.out.mono ?_; rintro e w9 ⟨rfl, t9, b9⟩; have M9 := Lib.hid (HM.out.still b9.still); have H9 := Lib.hid t9; have y0 : w9.cell? ⟨d, 0, none⟩ = some (.slice (some ⟨w7.heap.size, 0, none⟩) 1 1) := (by rw [cell_of_row w9 d 0 _ 43 (0, 0) M9.out.box]; rfl); have y1 : w9.cell? ⟨d, 1, none⟩ = some (.slice none 0 0) := (by rw [cell_of_row w9 d 1 _ 43 (0, 0) M9.out.box]; rfl); have B9 := Lib.hid (HB.out.trans b9.toBelow); clear t9 b9)
          | (go_at_call 24; refine (K2.out _ _ H9.out M9.out.ints).mono ?_; rintro e w10 ⟨rfl, t10, b10⟩))
        go_roundw
        case rel => exact ⟨i + 1, by push_cast; rfl, by omega, M9.out.still b10.still, t10, B9.out.trans b10.toBelow⟩
        case measure => simp [intOf]; omega
      · obtain rfl : i = 4 := by omega
        have K3 : Hid (Calls Tryd.prog 21 #[.pointer (some ⟨T, 0, none⟩), .string b11] wr fun e' w' => ∃ n, e' = .returned (.tuple #[.int .i64 (if true then 0 else (s : Int)), .bool (!true)]) ∧ TabAt w' w.heap.size T M bl4 (zL true n) ∧ n < 65536 ∧ Bel w.heap.size wr w') := sees_pend w.heap.size T M bl4 true s wr hT hs1 hs2 (tab_below HZ.out hB h1) (by have := hB.size; omega)
        have HB := Lib.hid hB
        clear hM hT hB
        go_wp2_with (go_at_call 21; refine K3.out.mono ?_; rintro e w11 ⟨n, rfl, t11, hn, b11'⟩)
        have T11 := Lib.hid t11
        have B11 := Lib.hid (HB.out.trans b11'.toBelow)
        clear t11 b11'
        go_loopw [20, 21] (fun vg vi wr => ∃ i : Nat, vi = .int .i64 i ∧ i ≤ other.size ∧ vg = .bool (goodTo other i) ∧ wr = w11) (fun _ vi _ => other.size - (intOf vi).toNat)
        case atStart => exact ⟨0, rfl, by omega, rfl, rfl⟩
        case round =>
          obtain ⟨i, rfl, hi1, rfl, rfl⟩ := hrel
          by_cases hi : i < other.size
          · have hq : goodTo other (i + 1) = (goodTo other i && (if i % 2 = 0 then decide (49 ≤ (other[i]'hi).toNat) && decide ((other[i]'hi).toNat ≤ 57) else decide ((other[i]'hi).toNat = 46))) := by
              show (goodTo other i && _) = _
              rw [dif_pos hi]
            have HQ := Lib.hid hq
            clear hq
            go_wp2
            all_goals
              refine ⟨⟨i + 1, by push_cast; rfl, by omega, ?_, trivial⟩, by simp [intOf]; omega⟩
              rw [HQ.out]
              clear HQ
              generalize hc : (other[i]'hi).toNat = c at *
              by_cases k0 : i % 2 = 0 <;> by_cases k1 : 49 ≤ c <;> by_cases k2 : c ≤ 57 <;> by_cases k3 : c = 46 <;> first | (exfalso; omega) | (simp [*]; done) | (simp [*]; omega)
          · obtain rfl : i = other.size := by omega
            have K4 : Hid (Calls Tryd.prog 19 #[.pointer (some ⟨T, 0, none⟩), .string oneB, .string other, .int .i64 s] wr fun e' w' => e' = .returned (.int .i64 (if validB other then 0 else 1)) ∧ Bel w.heap.size wr w') := sees_last w.heap.size T M bl4 true n s other wr T11.out hn hs1 hs2 (by omega)
            have hv := valid_good other
            generalize validB other = V at *
            generalize goodTo other other.size = G at *
            have hes : true = true := rfl
            by_cases hodd : other.size % 2 = 1
            · by_cases h15 : other.size ≤ 15
              · rw [decide_eq_true hodd, decide_eq_true h15, Bool.and_true, Bool.and_true] at hv
                subst hv
                cases V
                · go_wp2_with (first
                    | (go_at_call 19; refine K4.out.mono ?_; rintro e w12 ⟨rfl, b12'⟩; have B12 := Lib.hid (B11.out.trans b12'.toBelow))
                    | (go_at_call 15; refine (awake_any _).mono ?_; rintro e w13 ⟨rfl, b13⟩))
                  go_ret
                  exact ⟨rfl, B12.out.trans (b13.mono B12.out.size)⟩
                · go_wp2_with (first
                    | (go_at_call 19; refine K4.out.mono ?_; rintro e w12 ⟨rfl, b12'⟩; have B12 := Lib.hid (B11.out.trans b12'.toBelow))
                    | (go_at_call 15; refine (awake_any _).mono ?_; rintro e w13 ⟨rfl, b13⟩))
                  go_ret
                  exact ⟨rfl, B12.out.trans (b13.mono B12.out.size)⟩
              · rw [decide_eq_false h15, Bool.and_false] at hv
                subst hv
                cases G
                · go_wp2_with (first
                    | (go_at_call 19; refine K4.out.mono ?_; rintro e w12 ⟨rfl, b12'⟩; have B12 := Lib.hid (B11.out.trans b12'.toBelow))
                    | (go_at_call 15; refine (awake_any _).mono ?_; rintro e w13 ⟨rfl, b13⟩))
                  go_ret
                  exact ⟨rfl, B12.out.trans (b13.mono B12.out.size)⟩
                · go_wp2_with (first
                    | (go_at_call 19; refine K4.out.mono ?_; rintro e w12 ⟨rfl, b12'⟩; have B12 := Lib.hid (B11.out.trans b12'.toBelow))
                    | (go_at_call 15; refine (awake_any _).mono ?_; rintro e w13 ⟨rfl, b13⟩))
                  go_ret
                  exact ⟨rfl, B12.out.trans (b13.mono B12.out.size)⟩
            · rw [decide_eq_false hodd, Bool.and_false, Bool.false_and] at hv
              subst hv
              cases G
              · go_wp2_with (first
                  | (go_at_call 19; refine K4.out.mono ?_; rintro e w12 ⟨rfl, b12'⟩; have B12 := Lib.hid (B11.out.trans b12'.toBelow))
                  | (go_at_call 15; refine (awake_any _).mono ?_; rintro e w13 ⟨rfl, b13⟩))
                go_ret
                exact ⟨rfl, B12.out.trans (b13.mono B12.out.size)⟩
              · go_wp2_with (first
                  | (go_at_call 19; refine K4.out.mono ?_; rintro e w12 ⟨rfl, b12'⟩; have B12 := Lib.hid (B11.out.trans b12'.toBelow))
                  | (go_at_call 15; refine (awake_any _).mono ?_; rintro e w13 ⟨rfl, b13⟩))
                go_ret
                exact ⟨rfl, B12.out.trans (b13.mono B12.out.size)⟩
end Go.Proofs.YtmphnoabkmoafaaDoor
