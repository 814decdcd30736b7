/- The walk of ProcSignals. -/
import Derived.Test.YtmphnoabkmoafaaDoorPending
import Derived.Test.YtmphnoabkmoafaaDoorLaidT
import Derived.Test.YtmphnoabkmoafaaDoorStrs
namespace Go.Proofs.YtmphnoabkmoafaaDoor
open Go.RowKit Go.Maps
set_option linter.unusedVariables false
def sP1 : PR := ⟨oneB, ⟨#[]⟩, [], [], [], [], 4, 0, false, 1, 0, 0, 0⟩
def sC (a : Nat) (m : Int) : PR := ⟨b11, oneB, [], [], [], [], 0, 0, false, 0, 0, m, (a : Int)⟩
def sL (a : Nat) (m : Int) : List PR := [sP1, sC a m]
theorem sL0_eq : forkK [firstP 5] oneB 0 = some (b11, sL 0 0) := by kernel_rfl
theorem sget1 (a : Nat) (m : Int) : get (sL a m) oneB = some sP1 := by kernel_rfl
theorem sgetC (a : Nat) (m : Int) : get (sL a m) b11 = some (sC a m) := by
  unfold get sL
  rw [List.find?_cons, show decide (sP1.id = b11) = false by kernel_rfl, List.find?_cons, show decide ((sC a m).id = b11) = true from by simp [sC]]
theorem supd (a a' : Nat) (m m' : Int) : updP (sC a' m') (sL a m) = sL a' m' := by
  unfold updP sL
  rw [List.map_cons, List.map_cons, List.map_nil, if_neg (show ¬ sP1.id = (sC a' m').id from by show ¬ oneB = b11; decide), if_pos (show (sC a m).id = (sC a' m').id from rfl)]
theorem sFine1 : Fine sP1 := fine_fineB (by kernel_rfl)
theorem sFineC (a : Nat) (m : Int) : Fine (sC a m) := fine_of _ (by simp only [sC]; exact ⟨by decide, by decide, by decide, by decide, by decide, by decide, by decide, by decide, by decide, by decide, by decide⟩) b11_chars
/-- What the law notes: the signals that it sent. -/
def bArr (a : Nat) : Array Value := ((List.range 16).map fun s => Value.bool (a.testBit s)).toArray
theorem bArr_get (a : Nat) {s : Nat} (hs : s < 16) : (bArr a)[s]? = some (.bool (a.testBit s)) := by
  unfold bArr
  simp [hs]
theorem bArr_set (a a' s : Nat) (b : Bool) (hs : s < 16) (h1 : a'.testBit s = b) (h2 : ∀ k, k < 16 → k ≠ s → a'.testBit k = a.testBit k) : (bArr a).setIfInBounds s (.bool b) = bArr a' := by
  apply Array.ext
  · simp [bArr]
  · intro j hj hj2
    have hj16 : j < 16 := by simpa [bArr] using hj2
    rw [Array.getElem_setIfInBounds (by simpa [bArr] using hj16)]
    by_cases e : s = j
    · subst e
      rw [if_pos rfl]
      simp [bArr, h1]
    · rw [if_neg e]
      simp [bArr, h2 j hj16 (fun h => e h.symm)]
theorem or_bit (a s k : Nat) : (a ||| 2 ^ s).testBit k = (a.testBit k || decide (s = k)) := by
  rw [Nat.testBit_or, Nat.testBit_two_pow]
theorem TabAt.set54 {w : World} {B T M : Nat} {bl : ByteArray → Nat} {L : List PR} {b s : Nat} {cs : Array Value} {u : Value} (h : TabAt w B T M bl L) (hrow : w.heap[b]? = some (.cells cs 54 (0, 0))) : TabAt (w.setCell ⟨b, s, none⟩ u) B T M bl L :=
  h.other (t := 54) (fun k hk hne => heap_setCell_other w ⟨b, s, none⟩ k u (fun e => hne cs (by rw [e]; exact hrow))) (by decide) (by decide) (by decide)
theorem row_set54 {w : World} {b s a a' : Nat} {v : Bool} (hrow : w.heap[b]? = some (.cells (bArr a) 54 (0, 0))) (hs : s < 16) (h1 : a'.testBit s = v) (h2 : ∀ k, k < 16 → k ≠ s → a'.testBit k = a.testBit k) : (w.setCell ⟨b, s, none⟩ (.bool v)).heap[b]? = some (.cells (bArr a') 54 (0, 0)) := by
  rw [heap_setCell_same w b s _ 54 _ hrow, bArr_set a a' s v hs h1 h2]
theorem mask_bit (mask : Int) (s : Nat) (hs : s < 16) : bits BinOp.and IntKind.i64 (mask / 2 ^ s) 1 = if bitOf mask s then 1 else 0 := by
  have e1 : bits BinOp.and IntKind.i64 (mask / 2 ^ s) 1 = (mask / 2 ^ s) % 2 := by
    have e : bits BinOp.and IntKind.i64 (mask / 2 ^ s) 1 = IntKind.i64.wrap (((BitVec.ofInt 64 (mask / 2 ^ s)).toNat &&& 1 : Nat) : Int) := rfl
    rw [e, Nat.and_one_is_mod, BitVec.toNat_ofInt, IntKind.wrap_i64]
    generalize mask / 2 ^ s = x
    omega
  have e2 : bitOf mask s = decide ((mask / 2 ^ s) % 2 = 1) := by
    unfold bitOf
    rw [← BitVec.testBit_toNat, BitVec.toNat_ofInt, Nat.testBit_eq_decide_div_mod_eq]
    obtain rfl | rfl | rfl | rfl | rfl | rfl | rfl | rfl | rfl | rfl | rfl | rfl | rfl | rfl | rfl | rfl : s = 0 ∨ s = 1 ∨ s = 2 ∨ s = 3 ∨ s = 4 ∨ s = 5 ∨ s = 6 ∨ s = 7 ∨ s = 8 ∨ s = 9 ∨ s = 10 ∨ s = 11 ∨ s = 12 ∨ s = 13 ∨ s = 14 ∨ s = 15 := by omega
    all_goals
      rw [decide_eq_decide]
      simp only [Nat.reducePow, Int.reducePow]
      omega
  rw [e1, e2]
  by_cases h : (mask / 2 ^ s) % 2 = 1
  · simp [h]
  · have : (mask / 2 ^ s) % 2 = 0 := by omega
    simp [this]
theorem bitOf_zero (s : Nat) : bitOf 0 s = false := by unfold bitOf; simp
theorem smask (B T M : Nat) (bl : ByteArray → Nat) (a : Nat) (m m' : Int) (w : World) (h : TabAt w B T M bl (sL a m)) :
    Calls Tryd.prog 20 #[ptr T, .string b11, .int .i64 m'] w fun e w' => e = .returned (.tuple #[.int .i64 m, .int .i64 0]) ∧ TabAt w' B T M bl (sL a m') ∧ Bel B w w' := by
  have := mask_any B T M bl (sL a m) b11 m' w h (by decide)
  have e1 : maskRes (sL a m) b11 = m := by unfold maskRes; rw [sgetC]; rfl
  have e2 : ofCode (sL a m) b11 = 0 := by unfold ofCode; rw [sgetC]; rfl
  have e3 : maskT (sL a m) b11 m' = sL a m' := by unfold maskT; rw [sgetC]; exact supd a a m m'
  rw [e1, e2, e3] at this
  exact this
theorem spend (B T M : Nat) (bl : ByteArray → Nat) (a : Nat) (m : Int) (w : World) (s : Nat) (h : TabAt w B T M bl (sL a m)) (ha : a < 65536) (hz : (takeN a m).testBit s = true) (hl : ∀ k, k < s → (takeN a m).testBit k = false) (hT : _root_.Go.Proofs.TabAt 1 Lib.deBruijn64tab w) (h1 : 1 < w.heap.size) :
    Calls Tryd.prog 21 #[ptr T, .string b11] w fun e w' => e = .returned (.tuple #[.int .i64 s, .bool true]) ∧ TabAt w' B T M bl (sL (clearN a s) m) ∧ Bel B w w' := by
  have := pending_some B T M bl (sL a m) b11 w (sC a m) h (by decide) (sgetC a m) rfl (by show (0 : Int) ≤ (a : Int); omega) (by show (a : Int) < 65536; omega) s (by simpa [sC] using hz) (fun k hk => by simpa [sC] using hl k hk) hT h1
  rw [show pendP (sC a m) s = sC (clearN a s) m from by unfold pendP; simp [sC], supd] at this
  exact this
theorem spend0 (B T M : Nat) (bl : ByteArray → Nat) (a : Nat) (m : Int) (w : World) (h : TabAt w B T M bl (sL a m)) (ha : a < 65536) (hl : ∀ k, k < 16 → (takeN a m).testBit k = false) :
    Calls Tryd.prog 21 #[ptr T, .string b11] w fun e w' => e = .returned (.tuple #[.int .i64 0, .bool false]) ∧ TabAt w' B T M bl (sL a m) ∧ Bel B w w' := by
  have hz : takeN a m = 0 := no_bits (by have := takeN_le a m ha; omega) hl
  exact pending_none B T M bl (sL a m) b11 w (sC a m) h (by decide) (sgetC a m) rfl (by show (0 : Int) ≤ (a : Int); omega) (by show (a : Int) < 65536; omega) (by simpa [sC] using hz)
theorem clear_low (a : Nat) (m : Int) (s : Nat) (hs : s < 16) (hl : ∀ k, k < s → (takeN a m).testBit k = false) : ∀ k, k < s + 1 → (takeN (clearN a s) m).testBit k = false := fun k hk => by
  rw [take_bit _ _ _ (by omega), clear_bit _ _ _ (by omega) (by omega)]
  by_cases e : k = s
  · simp [e]
  · have := hl k (by omega)
    rw [take_bit _ _ _ (by omega)] at this
    simp only [e, decide_false, Bool.not_false, Bool.and_true]
    exact this
theorem keep_low (a : Nat) (m : Int) (s : Nat) (h : (takeN a m).testBit s = false) (hl : ∀ k, k < s → (takeN a m).testBit k = false) : ∀ k, k < s + 1 → (takeN a m).testBit k = false := fun k hk => by
  by_cases e : k = s
  · rw [e]; exact h
  · exact hl k (by omega)
set_option maxRecDepth 100000 in
set_option maxHeartbeats 4000000 in
theorem sigs_any (v : Value) (nl : Nat) (F : Nat → Int) (mask : Int) (w : World) (hv : IntsIn w v nl F) (hz : _root_.Go.Proofs.TabAt 1 Lib.deBruijn64tab w) (h1 : 1 < w.heap.size) :
    Calls Tryd.prog 6 #[v, .int .i64 mask] w fun e w' => e = .returned (.bool true) ∧ Below w.heap.size w w' := by
  have c0 := new_ok 5 w (by omega) (by omega)
  have c1 : ∀ w1 B T M bl, TabAt w1 B T M bl [firstP 5] → Calls Tryd.prog 13 #[ptr T, .string ⟨#[49]⟩, .int .i64 0] w1 fun e w' => ∃ bl', e = .returned (.tuple #[.string b11, .int .i64 0]) ∧ TabAt w' B T M bl' (sL 0 0) ∧ Bel B w1 w' := fun w1 B T M bl h => forkK_call sL0_eq h
  have X0 := Lib.hid c0
  have X1 := Lib.hid c1
  have HZ := Lib.hid hz
  obtain ⟨aol, capl, rfl, hnm, hcells⟩ := hv
  have HV := Lib.hid hcells
  clear c0 c1 hz hcells
  unfold ptr at X0 X1
  go_enter Tryd.func6, Tryd.ntmps6
  go_wp2_with (first
    | (go_at_call 10; refine X0.out.mono ?_; rintro e w1 ⟨T, M, bl, rfl, t1, b1⟩)
    | (go_at_call 13; refine (X1.out _ _ _ _ _ t1).mono ?_; rintro e w2 ⟨bl2, rfl, t2, b2⟩))
  obtain ⟨W, hW⟩ : ∃ W, W = w2.alloc (.cells #[Value.bool false, Value.bool false, Value.bool false, Value.bool false, Value.bool false, Value.bool false, Value.bool false, Value.bool false, Value.bool false, Value.bool false, Value.bool false, Value.bool false, Value.bool false, Value.bool false, Value.bool false, Value.bool false] 54) := ⟨_, rfl⟩
  obtain ⟨b, hb⟩ : ∃ b, b = w2.heap.size := ⟨_, rfl⟩
  have hal : Below w2.heap.size w2 W := by rw [hW]; exact (Below.refl _ _).alloc (Nat.le_refl _) _
  have hrow : W.heap[b]? = some (.cells (bArr 0) 54 (0, 0)) := by rw [hW, hb, show bArr 0 = #[Value.bool false, Value.bool false, Value.bool false, Value.bool false, Value.bool false, Value.bool false, Value.bool false, Value.bool false, Value.bool false, Value.bool false, Value.bool false, Value.bool false, Value.bool false, Value.bool false, Value.bool false, Value.bool false] by kernel_rfl]; exact heap_alloc_new w2 _
  have HBb : Hid (w.heap.size ≤ b) := by have h1 := b1.size; have h2 := b2.size; rw [hb]; exact Nat.le_trans h1 h2
  have HT := Lib.hid (t2.below hal)
  have HB := Lib.hid ((b1.trans b2.toBelow).trans (hal.mono (Nat.le_trans b1.size b2.size)))
  have HR := Lib.hid hrow
  rw [← hW, ← hb]
  clear hW hb hal hrow t1 t2 b1 b2
  go_loopw [10, 11, 12] (fun vi _ _ wr => ∃ (i a : Nat), vi = .int .i64 i ∧ i ≤ nl ∧ a < 65536 ∧ a.testBit 0 = false ∧ wr.heap[b]? = some (.cells (bArr a) 54 (0, 0)) ∧ TabAt wr w.heap.size T M bl2 (sL a 0) ∧ Below w.heap.size w wr) (fun vi _ _ _ => nl - (intOf vi).toNat)
  case atStart => exact ⟨0, 0, rfl, by omega, by omega, by simp, HR.out, HT.out, HB.out⟩
  case round =>
    obtain ⟨i, a, rfl, hi1, ha, ha0, hrow, hT, hB⟩ := hrel
    by_cases hi : i < nl ∧ i < 20
    · obtain ⟨hi, hi20⟩ := hi
      obtain ⟨gl, off, rfl, hblk, hcl⟩ := HV.out i hi
      obtain ⟨x, hx⟩ : ∃ x, x = F i := ⟨_, rfl⟩
      have HCE : Hid (∀ w', Below w.heap.size w w' → w'.cell? ⟨gl, off + i, none⟩ = some (.int .i64 x)) := fun w' k => (k.cell (p := ⟨gl, off + i, none⟩) hblk).trans (by rw [hx]; exact hcl)
      have z0 := HCE.out wr hB
      have HB2 := Lib.hid hB
      have HT2 := Lib.hid hT
      have HR2 := Lib.hid hrow
      by_cases hg : 1 ≤ x ∧ x ≤ 15
      · obtain ⟨hg1, hg2⟩ := hg
        obtain ⟨s, hs⟩ : ∃ s : Nat, x = (s : Int) := ⟨x.toNat, by omega⟩
        subst hs
        have hp : (2 : Nat) ^ s < 65536 := Nat.lt_of_le_of_lt (Nat.pow_le_pow_right (n := 2) (by omega) (show s ≤ 15 by omega)) (by decide)
        have K1 : Hid (Calls Tryd.prog 19 #[.pointer (some ⟨T, 0, none⟩), .string oneB, .string b11, .int .i64 s] wr fun e w' => e = .returned (.int .i64 0) ∧ TabAt w' w.heap.size T M bl2 (sL (a ||| 2 ^ s) 0) ∧ Bel w.heap.size wr w') := by
          have := signal_live w.heap.size T M bl2 (sL a 0) oneB b11 s wr sP1 (sC a 0) hT (by decide) (by decide) (sget1 a 0) rfl (by omega) (by omega) (by kernel_rfl) (sgetC a 0) rfl sFine1 (sFineC a 0) (by kernel_rfl) (by show (0 : Int) ≤ (a : Int); omega) (by show (a : Int) < 65536; omega)
          rw [show sigP (sC a 0) s = sC (a ||| 2 ^ s) 0 from by unfold sigP; simp [sC], supd] at this
          exact this
        have ha' : a ||| 2 ^ s < 65536 := Nat.or_lt_two_pow (n := 16) ha hp
        have hbit : (a ||| 2 ^ s).testBit s = true := by rw [or_bit]; simp
        have hoth : ∀ k, k < 16 → k ≠ s → (a ||| 2 ^ s).testBit k = a.testBit k := fun k _ hk => by rw [or_bit]; simp [show ¬ s = k from fun e => hk e.symm]
        have ha0' : (a ||| 2 ^ s).testBit 0 = false := by rw [or_bit, ha0]; simp; omega
        have HO := Lib.hid hoth
        have HBt := Lib.hid hbit
        have HA0 := Lib.hid ha0'
        have HA1 := Lib.hid ha'
        clear hrow hT hB hp ha0 hoth hbit ha0' ha' hcl hblk hx
        go_wp2_with (go_at_call 19; refine K1.out.mono ?_; rintro e w3 ⟨rfl, t3, b3⟩; have R3 := Lib.hid (b3.still _ _ _ _ HR2.out (by decide)); have B3 := Lib.hid (HB2.out.trans b3.toBelow); have z3 := HCE.out w3 B3.out; have y3 : w3.cell? ⟨b, s, none⟩ = some (.bool (a.testBit s)) := (by rw [cell_of_row w3 b s _ 54 (0, 0) R3.out]; exact bArr_get a (by omega)); have f3 : w3.frozen? ⟨b, s, none⟩ = false := frozen_of_row w3 b s _ 54 R3.out)
        go_roundw
        case rel => exact ⟨i + 1, a ||| 2 ^ s, by push_cast; rfl, by omega, HA1.out, HA0.out, row_set54 R3.out (by omega) HBt.out HO.out, t3.set54 R3.out, B3.out.setCell HBb.out _⟩
        case measure => simp [intOf]; omega
      · have K1 : Hid (Calls Tryd.prog 19 #[.pointer (some ⟨T, 0, none⟩), .string oneB, .string b11, .int .i64 x] wr fun e w' => e = .returned (.int .i64 1) ∧ TabAt w' w.heap.size T M bl2 (sL a 0) ∧ Bel w.heap.size wr w') :=
          signal_arg w.heap.size T M bl2 (sL a 0) oneB b11 x wr hT (by decide) (by decide) (by unfold ofCode; rw [sget1]; rfl) (.inl hg)
        clear hrow hT hB hcl hblk hx
        by_cases hx1 : x ≥ 1
        · have d1 : decide (x ≥ 1) = true := by simp; omega
          have d2 : decide (x ≤ 15) = false := by simp; omega
          clear hg
          go_wp2_with (go_at_call 19; refine K1.out.mono ?_; rintro e w3 ⟨rfl, t3, b3⟩; have R3 := Lib.hid (b3.still _ _ _ _ HR2.out (by decide)); have B3 := Lib.hid (HB2.out.trans b3.toBelow); have z3 := HCE.out w3 B3.out)
          go_roundw
          case rel => exact ⟨i + 1, a, by push_cast; rfl, by omega, ha, ha0, R3.out, t3, B3.out⟩
          case measure => simp [intOf]; omega
        · have d1 : decide (x ≥ 1) = false := by simp; omega
          clear hg
          go_wp2_with (go_at_call 19; refine K1.out.mono ?_; rintro e w3 ⟨rfl, t3, b3⟩; have R3 := Lib.hid (b3.still _ _ _ _ HR2.out (by decide)); have B3 := Lib.hid (HB2.out.trans b3.toBelow); have z3 := HCE.out w3 B3.out)
          go_roundw
          case rel => exact ⟨i + 1, a, by push_cast; rfl, by omega, ha, ha0, R3.out, t3, B3.out⟩
          case measure => simp [intOf]; omega
    · have hcase : (¬ i < nl) ∨ (i < nl ∧ ¬ i < 20) := by omega
      have HB1 := Lib.hid hB
      have HR1 := Lib.hid hrow
      have K2 : Hid (Calls Tryd.prog 20 #[.pointer (some ⟨T, 0, none⟩), .string b11, .int .i64 mask] wr fun e w' => e = .returned (.tuple #[.int .i64 0, .int .i64 0]) ∧ TabAt w' w.heap.size T M bl2 (sL a mask) ∧ Bel w.heap.size wr w') := smask _ _ _ _ a 0 mask wr hT
      clear hi hB hrow hT
      rcases hcase with hi | ⟨hi, hi20⟩
      all_goals
        go_wp2_with (go_at_call 20; refine K2.out.mono ?_; rintro e w4 ⟨rfl, t4, b4⟩)
        have R4 := Lib.hid (b4.still _ _ _ _ HR1.out (by decide))
        have B4 := Lib.hid (HB1.out.trans b4.toBelow)
        have T4 := Lib.hid t4
        have HA0 : Hid (∀ k, k < 1 → (takeN a mask).testBit k = false) := fun k hk => by
          obtain rfl : k = 0 := by omega
          rw [take_bit _ _ _ (by omega), ha0]; rfl
        clear t4 b4
        go_loopw [15, 16, 17] (fun vs _ _ wr => ∃ (s a : Nat), vs = .int .i64 s ∧ 1 ≤ s ∧ s ≤ 16 ∧ a < 65536 ∧ a.testBit 0 = false ∧ (∀ k, k < s → (takeN a mask).testBit k = false) ∧ wr.heap[b]? = some (.cells (bArr a) 54 (0, 0)) ∧ TabAt wr w.heap.size T M bl2 (sL a mask) ∧ Below w.heap.size w wr) (fun vs _ _ _ => 16 - (intOf vs).toNat)
        case atStart => exact ⟨1, a, rfl, by omega, by omega, ha, ha0, HA0.out, R4.out, T4.out, B4.out⟩
        case round =>
          clear ha ha0 HA0 R4 T4 B4 K2 HR1 HB1
          obtain ⟨s, a, rfl, hs1, hs16, ha, hz0, hlow, hrow, hT, hB⟩ := hrel
          have HL := Lib.hid hlow
          have HR2 := Lib.hid hrow
          have HT2 := Lib.hid hT
          have HB2 := Lib.hid hB
          by_cases hs : s ≤ 15
          · have y : wr.cell? ⟨b, s, none⟩ = some (.bool (a.testBit s)) := by rw [cell_of_row wr b s _ 54 (0, 0) hrow]; exact bArr_get a (by omega)
            clear hlow hrow hT hB
            cases hbt : a.testBit s
            · rw [hbt] at y
              have HBT := Lib.hid hbt
              clear hbt
              go_wp2
              go_roundw
              case rel => exact ⟨s + 1, a, by push_cast; rfl, by omega, by omega, ha, hz0, keep_low a mask s (by rw [take_bit _ _ _ (by omega), HBT.out]; rfl) HL.out, HR2.out, HT2.out, HB2.out⟩
              case measure => simp [intOf]; omega
            · rw [hbt] at y
              have HBT := Lib.hid hbt
              clear hbt
              by_cases h9 : s = 9
              · have d9 : ((s : Int) == 9) = true := by simp; omega
                have KP : Hid (Calls Tryd.prog 21 #[.pointer (some ⟨T, 0, none⟩), .string b11] wr fun e w' => e = .returned (.tuple #[.int .i64 s, .bool true]) ∧ TabAt w' w.heap.size T M bl2 (sL (clearN a s) mask) ∧ Bel w.heap.size wr w') := spend _ _ _ _ a mask wr s HT2.out ha (by rw [take_bit _ _ _ (by omega), HBT.out]; simp [*]) HL.out (tab_below HZ.out HB2.out h1) (by have := HB2.out.size; omega)
                clear h9
                go_wp2_with (go_at_call 21; refine KP.out.mono ?_; rintro e w5 ⟨rfl, t5, b5⟩; have R5 := Lib.hid (b5.still _ _ _ _ HR2.out (by decide)); have y5 : w5.cell? ⟨b, s, none⟩ = some (.bool true) := (by rw [cell_of_row w5 b s _ 54 (0, 0) R5.out, bArr_get a (by omega), HBT.out]); have f5 : w5.frozen? ⟨b, s, none⟩ = false := frozen_of_row w5 b s _ 54 R5.out)
                go_roundw
                case rel => exact ⟨s + 1, clearN a s, by push_cast; rfl, by omega, by omega, by have := clearN_le a s ha; omega, by rw [clear_bit _ _ _ (by omega) (by omega), hz0]; rfl, clear_low a mask s (by omega) HL.out, row_set54 R5.out (by omega) (by rw [clear_bit _ _ _ (by omega) (by omega)]; simp) (fun k hk hne => by rw [clear_bit _ _ _ (by omega) (by omega)]; simp [hne]), t5.set54 R5.out, (HB2.out.trans b5.toBelow).setCell HBb.out _⟩
                case measure => simp [intOf]; omega
              · have d9 : ((s : Int) == 9) = false := by simp; omega
                have hm := mask_bit mask s (by omega)
                cases hmb : bitOf mask s
                · rw [hmb] at hm
                  simp only [Bool.false_eq_true, if_false] at hm
                  have KP : Hid (Calls Tryd.prog 21 #[.pointer (some ⟨T, 0, none⟩), .string b11] wr fun e w' => e = .returned (.tuple #[.int .i64 s, .bool true]) ∧ TabAt w' w.heap.size T M bl2 (sL (clearN a s) mask) ∧ Bel w.heap.size wr w') := spend _ _ _ _ a mask wr s HT2.out ha (by rw [take_bit _ _ _ (by omega), HBT.out]; simp [*]) HL.out (tab_below HZ.out HB2.out h1) (by have := HB2.out.size; omega)
                  go_wp2_with (go_at_call 21; refine KP.out.mono ?_; rintro e w5 ⟨rfl, t5, b5⟩; have R5 := Lib.hid (b5.still _ _ _ _ HR2.out (by decide)); have y5 : w5.cell? ⟨b, s, none⟩ = some (.bool true) := (by rw [cell_of_row w5 b s _ 54 (0, 0) R5.out, bArr_get a (by omega), HBT.out]); have f5 : w5.frozen? ⟨b, s, none⟩ = false := frozen_of_row w5 b s _ 54 R5.out)
                  go_roundw
                  case rel => exact ⟨s + 1, clearN a s, by push_cast; rfl, by omega, by omega, by have := clearN_le a s ha; omega, by rw [clear_bit _ _ _ (by omega) (by omega), hz0]; rfl, clear_low a mask s (by omega) HL.out, row_set54 R5.out (by omega) (by rw [clear_bit _ _ _ (by omega) (by omega)]; simp) (fun k hk hne => by rw [clear_bit _ _ _ (by omega) (by omega)]; simp [hne]), t5.set54 R5.out, (HB2.out.trans b5.toBelow).setCell HBb.out _⟩
                  case measure => simp [intOf]; omega
                · rw [hmb] at hm
                  simp only [if_true] at hm
                  have hno : (takeN a mask).testBit s = false := by rw [take_bit _ _ _ (by omega), HBT.out, hmb]; simp [h9]
                  go_wp2
                  go_roundw
                  case rel => exact ⟨s + 1, a, by push_cast; rfl, by omega, by omega, ha, hz0, keep_low a mask s (hno) HL.out, HR2.out, HT2.out, HB2.out⟩
                  case measure => simp [intOf]; omega
          · obtain rfl : s = 16 := by omega
            have K3 : Hid (Calls Tryd.prog 21 #[.pointer (some ⟨T, 0, none⟩), .string b11] wr fun e w' => e = .returned (.tuple #[.int .i64 0, .bool false]) ∧ TabAt w' w.heap.size T M bl2 (sL a mask) ∧ Bel w.heap.size wr w') := spend0 _ _ _ _ a mask wr hT ha hlow
            have K4 : Hid (∀ w1, TabAt w1 w.heap.size T M bl2 (sL a mask) → Calls Tryd.prog 20 #[.pointer (some ⟨T, 0, none⟩), .string b11, .int .i64 0] w1 fun e w' => e = .returned (.tuple #[.int .i64 mask, .int .i64 0]) ∧ TabAt w' w.heap.size T M bl2 (sL a 0) ∧ Bel w.heap.size w1 w') := fun w1 h => smask _ _ _ _ a mask 0 w1 h
            clear hlow hrow hT hB
            go_wp2_with (first
              | (go_at_call 21; refine K3.out.mono ?_; rintro e w5 ⟨rfl, t5, b5⟩)
              | (go_at_call 20; refine (K4.out _ t5).mono ?_; rintro e w6 ⟨rfl, t6, b6⟩))
            have R6 := Lib.hid ((b5.trans b6).still _ _ _ _ HR2.out (by decide))
            have B6 := Lib.hid (HB2.out.trans (b5.trans b6).toBelow)
            have T6 := Lib.hid t6
            have HA0 : Hid (∀ k, k < 1 → (takeN a 0).testBit k = false) := fun k hk => by
              obtain rfl : k = 0 := by omega
              rw [take_bit _ _ _ (by omega), hz0]; rfl
            clear t5 b5 t6 b6
            obtain ⟨a0, ha0e⟩ : ∃ a0, a0 = a := ⟨_, rfl⟩
            have R6' : Hid (w6.heap[b]? = some (.cells (bArr a0) 54 (0, 0))) := by rw [ha0e]; exact R6.out
            go_loopw [22, 23, 24] (fun vs _ _ wr => ∃ (s a : Nat), vs = .int .i64 s ∧ 1 ≤ s ∧ s ≤ 16 ∧ a < 65536 ∧ (∀ k, s ≤ k → k < 64 → a.testBit k = a0.testBit k) ∧ (∀ k, k < s → (takeN a 0).testBit k = false) ∧ wr.heap[b]? = some (.cells (bArr a0) 54 (0, 0)) ∧ TabAt wr w.heap.size T M bl2 (sL a 0) ∧ Below w.heap.size w wr) (fun vs _ _ _ => 16 - (intOf vs).toNat)
            case atStart => exact ⟨1, a, rfl, by omega, by omega, ha, fun k _ _ => by rw [ha0e], HA0.out, R6'.out, T6.out, B6.out⟩
            case round =>
              clear ha hz0 HA0 R6 R6' T6 B6 K3 K4 HR2 HB2 HT2 HL ha0e
              obtain ⟨s, a, rfl, hs1, hs16, ha, hsame, hlow, hrow, hT, hB⟩ := hrel
              have HL := Lib.hid hlow
              have HR2 := Lib.hid hrow
              have HT2 := Lib.hid hT
              have HB2 := Lib.hid hB
              have HSA := Lib.hid hsame
              by_cases hs : s ≤ 15
              · have y : wr.cell? ⟨b, s, none⟩ = some (.bool (a0.testBit s)) := by rw [cell_of_row wr b s _ 54 (0, 0) hrow]; exact bArr_get a0 (by omega)
                have hsb := hsame s (by omega) (by omega)
                clear hlow hrow hT hB hsame
                cases hbt : a0.testBit s
                · rw [hbt] at y hsb
                  have HBT := Lib.hid hsb
                  clear hbt hsb
                  go_wp2
                  go_roundw
                  case rel => exact ⟨s + 1, a, by push_cast; rfl, by omega, by omega, ha, fun k h1 h2 => HSA.out k (by omega) h2, keep_low a 0 s (by rw [take_bit _ _ _ (by omega), HBT.out]; rfl) HL.out, HR2.out, HT2.out, HB2.out⟩
                  case measure => simp [intOf]; omega
                · rw [hbt] at y hsb
                  have HBT := Lib.hid hsb
                  have hb0 := bitOf_zero s
                  clear hbt hsb
                  have KP : Hid (Calls Tryd.prog 21 #[.pointer (some ⟨T, 0, none⟩), .string b11] wr fun e w' => e = .returned (.tuple #[.int .i64 s, .bool true]) ∧ TabAt w' w.heap.size T M bl2 (sL (clearN a s) 0) ∧ Bel w.heap.size wr w') := spend _ _ _ _ a 0 wr s HT2.out ha (by rw [take_bit _ _ _ (by omega), HBT.out]; simp [*]) HL.out (tab_below HZ.out HB2.out h1) (by have := HB2.out.size; omega)
                  go_wp2_with (go_at_call 21; refine KP.out.mono ?_; rintro e w7 ⟨rfl, t5, b5⟩)
                  go_roundw
                  case rel => exact ⟨s + 1, clearN a s, by push_cast; rfl, by omega, by omega, by have := clearN_le a s ha; omega, fun k h1 h2 => by (rw [clear_bit _ _ _ (by omega) h2, HSA.out k (by omega) h2]; simp; omega), clear_low a 0 s (by omega) HL.out, b5.still _ _ _ _ HR2.out (by decide), t5, HB2.out.trans b5.toBelow⟩
                  case measure => simp [intOf]; omega
              · obtain rfl : s = 16 := by omega
                have K3 : Hid (Calls Tryd.prog 21 #[.pointer (some ⟨T, 0, none⟩), .string b11] wr fun e w' => e = .returned (.tuple #[.int .i64 0, .bool false]) ∧ TabAt w' w.heap.size T M bl2 (sL a 0) ∧ Bel w.heap.size wr w') := spend0 _ _ _ _ a 0 wr hT ha hlow
                clear hlow hrow hT hB
                go_wp2_with (first
                  | (go_at_call 21; refine K3.out.mono ?_; rintro e w5 ⟨rfl, t5, b5⟩; have B5 := Lib.hid (HB2.out.trans b5.toBelow))
                  | (go_at_call 15; refine (awake_any _).mono ?_; rintro e w6 ⟨rfl, b6⟩))
                go_ret
                exact ⟨rfl, B5.out.trans (b6.mono B5.out.size)⟩
end Go.Proofs.YtmphnoabkmoafaaDoor
