/- bits.TrailingZeros, as the library proves it, at this program's numbers. Pending; what its bits are. -/
import Derived.Shelf.Spec.TrailingZeros
import Derived.Test.YtmphnoabkmoafaaGreatDoorM3
import Derived.Test.YtmphnoabkmoafaaGreatDoorM26
import Derived.Lib.TrailingZeros
namespace Go.Proofs
open Go.Shelf
set_option maxRecDepth 100000
def Tryz.lays27_ren : Go.Shelf.Ren := ⟨fun | 27 => 74 | 28 => 101 | 29 => 102 | n => n, fun | 0 => 0 | 3 => 3 | 4 => 4 | 5 => 5 | 22 => 141 | 25 => 122 | 27 => 139 | 53 => 146 | 54 => 147 | n => n, fun | n => n⟩
theorem Tryz.lays27 : Go.Proofs.Lays7.n27 Tryz.prog Tryz.lays27_ren := {
  mixed := by kernel_rfl
  f27 := Tryz.func74.trans (congrArg some (by kernel_rfl))
  f28 := Tryz.func101.trans (congrArg some (by kernel_rfl))
  f29 := Tryz.func102.trans (congrArg some (by kernel_rfl))
  t0 := by kernel_rfl
  a0 := fun _ => by kernel_rfl
  z0 := fun _ => by kernel_rfl
  v0 := fun _ => by kernel_rfl
  i0 := by kernel_rfl
  t3 := Tryz.underlying3
  a3 := fun _ => by kernel_rfl
  z3 := fun _ => by kernel_rfl
  v3 := fun _ => by kernel_rfl
  i3 := by kernel_rfl
  t4 := Tryz.underlying4
  a4 := fun _ => by kernel_rfl
  z4 := fun _ => by kernel_rfl
  v4 := fun _ => by kernel_rfl
  i4 := by kernel_rfl
  t5 := Tryz.underlying5
  a5 := fun _ => by kernel_rfl
  z5 := fun _ => by kernel_rfl
  v5 := fun _ => by kernel_rfl
  i5 := by kernel_rfl
  t22 := Tryz.underlying141
  a22 := fun _ => by kernel_rfl
  z22 := fun _ => by kernel_rfl
  v22 := fun _ => by kernel_rfl
  i22 := by kernel_rfl
  t25 := Tryz.underlying122
  a25 := fun _ => by kernel_rfl
  z25 := fun _ => by kernel_rfl
  v25 := fun _ => by kernel_rfl
  i25 := by kernel_rfl
  t27 := Tryz.underlying139
  a27 := fun _ => by kernel_rfl
  z27 := fun _ => by kernel_rfl
  v27 := fun _ => by kernel_rfl
  i27 := by kernel_rfl
  t53 := Tryz.underlying146
  a53 := fun _ => by kernel_rfl
  z53 := fun _ => by kernel_rfl
  v53 := fun _ => by kernel_rfl
  i53 := by kernel_rfl
  t54 := Tryz.underlying147
  a54 := fun _ => by kernel_rfl
  z54 := fun _ => by kernel_rfl
  g0 := by kernel_rfl
  g1 := by kernel_rfl }
theorem Tryz.bits_TrailingZeros (x : Nat) (hx : x < 18446744073709551616) (w : World) (hT : x ≠ 0 → TabAt 1 Lib.deBruijn64tab w) : Calls Tryz.prog 74 #[.int .u64 x] w fun e w' => e = .returned (.int .i64 (Lib.ctz 64 x)) ∧ w' = w := Any7.bits_TrailingZeros Tryz.lays27 x hx w hT
end Go.Proofs
namespace Go.Proofs.YtmphnoabkmoafaaGreatDoor
open Go.RowKit Go.Maps
set_option linter.unusedVariables false
variable {uu0 : Unit} [Base uu0]
def heldV (mask : Int) : BitVec 64 := BitVec.ofInt 64 mask &&& ~~~(BitVec.ofNat 64 512)
/-- What is pending and not held back. -/
def takeN (a : Nat) (mask : Int) : Nat := (BitVec.ofNat 64 a &&& ~~~(heldV mask)).toNat
def clearN (a k : Nat) : Nat := (BitVec.ofNat 64 a &&& ~~~(BitVec.ofNat 64 (2 ^ k))).toNat
def bitOf (mask : Int) (s : Nat) : Bool := (BitVec.ofInt 64 mask).getLsbD s
theorem ofInt_wrap (n : Int) : BitVec.ofInt 64 (IntKind.i64.wrap n) = BitVec.ofInt 64 n := by
  apply BitVec.eq_of_toNat_eq
  rw [BitVec.toNat_ofInt, BitVec.toNat_ofInt, IntKind.wrap_i64]
  omega
theorem and_le_ofNat (a : Nat) (v : BitVec 64) (ha : a < 65536) : (BitVec.ofNat 64 a &&& v).toNat ≤ a := by
  rw [BitVec.toNat_and, BitVec.toNat_ofNat, Nat.mod_eq_of_lt (by omega)]
  exact Nat.and_le_left
theorem takeN_le (a : Nat) (mask : Int) (ha : a < 65536) : takeN a mask ≤ a := and_le_ofNat a _ ha
theorem clearN_le (a k : Nat) (ha : a < 65536) : clearN a k ≤ a := and_le_ofNat a _ ha
theorem bits_andNot (x y : Int) : bits BinOp.andNot IntKind.i64 x y = IntKind.i64.wrap ((BitVec.ofInt 64 x &&& ~~~(BitVec.ofInt 64 y)).toNat : Int) := rfl
theorem held_walk (mask : Int) : BitVec.ofInt 64 (bits BinOp.andNot IntKind.i64 mask 512) = heldV mask := by
  rw [bits_andNot, ofInt_wrap]
  unfold heldV
  rw [BitVec.ofInt_natCast, BitVec.ofNat_toNat, BitVec.setWidth_eq]
  rfl
theorem take_walk (a : Nat) (mask : Int) (ha : a < 65536) : bits BinOp.andNot IntKind.i64 (a : Int) (bits BinOp.andNot IntKind.i64 mask 512) = (takeN a mask : Int) := by
  rw [bits_andNot, held_walk, BitVec.ofInt_natCast, IntKind.wrap_i64]
  have := takeN_le a mask ha
  unfold takeN at this ⊢
  omega
theorem clear_walk (a k : Nat) (ha : a < 65536) : bits BinOp.andNot IntKind.i64 (a : Int) ((2 ^ k : Nat) : Int) = (clearN a k : Int) := by
  rw [bits_andNot, BitVec.ofInt_natCast, BitVec.ofInt_natCast, IntKind.wrap_i64]
  have := clearN_le a k ha
  unfold clearN at this ⊢
  omega
theorem take_bit (a : Nat) (mask : Int) (s : Nat) (hs : s < 64) : (takeN a mask).testBit s = (a.testBit s && !(bitOf mask s && !decide (s = 9))) := by
  unfold takeN heldV bitOf
  rw [BitVec.testBit_toNat, BitVec.getLsbD_and, BitVec.getLsbD_not, BitVec.getLsbD_and, BitVec.getLsbD_not, BitVec.getLsbD_ofNat, BitVec.getLsbD_ofNat]
  have e : Nat.testBit 512 s = decide (s = 9) := by
    rw [show (512 : Nat) = 2 ^ 9 by decide, Nat.testBit_two_pow]
    simp [eq_comm]
  rw [e]
  simp [hs]
theorem clear_bit (a k s : Nat) (hk : k < 64) (hs : s < 64) : (clearN a k).testBit s = (a.testBit s && !decide (s = k)) := by
  unfold clearN
  rw [BitVec.testBit_toNat, BitVec.getLsbD_and, BitVec.getLsbD_not, BitVec.getLsbD_ofNat, BitVec.getLsbD_ofNat, Nat.testBit_two_pow]
  simp [hs, eq_comm]
/-- The least bit. -/
theorem ctz_least {n s : Nat} (hn : n < 65536) (hs : n.testBit s = true) (hlt : ∀ k, k < s → n.testBit k = false) : Lib.ctz 64 n = s := by
  have h0 : n ≠ 0 := by rintro rfl; simp at hs
  obtain ⟨m, hm, hk⟩ := Lib.ctzFrom_spec 64 n (by omega) (by omega)
  have e : Lib.ctz 64 n = Lib.ctzFrom 64 n := by unfold Lib.ctz; rw [if_neg h0]
  rw [e]
  obtain ⟨k, hkk⟩ : ∃ k, Lib.ctzFrom 64 n = k := ⟨_, rfl⟩
  rw [hkk] at hm ⊢
  have hbit : ∀ j, n.testBit j = (decide (k ≤ j) && (2 * m + 1).testBit (j - k)) := fun j => by
    rw [hm, Nat.mul_comm, ← Nat.shiftLeft_eq, Nat.testBit_shiftLeft]
  rcases Nat.lt_trichotomy k s with h | h | h
  · have := hlt k h
    rw [hbit k] at this
    simp at this
  · exact h
  · rw [hbit s] at hs
    simp at hs
    omega
theorem ctz_lt {n : Nat} (h0 : n ≠ 0) (hn : n < 65536) : Lib.ctz 64 n < 16 := by
  obtain ⟨m, hm, hk⟩ := Lib.ctzFrom_spec 64 n (by omega) (by omega)
  have e : Lib.ctz 64 n = Lib.ctzFrom 64 n := by unfold Lib.ctz; rw [if_neg h0]
  rw [e]
  obtain ⟨k, hkk⟩ : ∃ k, Lib.ctzFrom 64 n = k := ⟨_, rfl⟩
  rw [hkk] at hm ⊢
  rcases Nat.lt_or_ge k 16 with h | h
  · exact h
  · have h1 : 2 ^ 16 ≤ 2 ^ k := Nat.pow_le_pow_right (by omega) h
    have h2 : 2 ^ k ≤ n := by rw [hm]; exact Nat.le_mul_of_pos_right _ (by omega)
    omega
theorem no_bits {n : Nat} (hn : n < 65536) (h : ∀ k, k < 16 → n.testBit k = false) : n = 0 := by
  apply Nat.eq_of_testBit_eq
  intro i
  rw [Nat.zero_testBit]
  rcases Nat.lt_or_ge i 16 with hi | hi
  · exact h i hi
  · exact Nat.testBit_lt_two_pow (Nat.lt_of_lt_of_le hn (Nat.pow_le_pow_right (n := 2) (by omega) hi))
theorem tab_below {B : Nat} {w w' : World} {l : List Nat} (h : _root_.Go.Proofs.TabAt 1 l w) (hb : Below B w w') (hB : 1 < B) : _root_.Go.Proofs.TabAt 1 l w' := fun j hj => (hb.cell (p := ⟨1, j, none⟩) hB).trans (h j hj)
def pendP (p : PR) (k : Nat) : PR := { p with pending := (clearN p.pending.toNat k : Int) }
set_option maxRecDepth 100000 in
set_option maxHeartbeats 1000000 in
/-- Nothing that may be told is pending. -/
theorem pending_none (B T M : Nat) (bl : ByteArray → Nat) (L : List PR) (id : ByteArray) (w : World) (p : PR) (h : TabAt w B T M bl L) (hid : id.size ≤ maxLen) (hg : get L id = some p) (hx : p.exited = false) (h3 : 0 ≤ p.pending) (h4 : p.pending < 65536) (hz : takeN p.pending.toNat p.mask = 0) :
    Calls Tryz.prog 36 #[ptr T, .string id] w fun e w' => e = .returned (.tuple #[.int .i64 0, .bool false]) ∧ TabAt w' B T M bl L ∧ Bel B w w' := by
  obtain ⟨hpL, hpid⟩ := get_mem hg
  have ho := of_any B T M bl L id w h hid
  obtain ⟨e1, e2⟩ := of_live (bl := bl) hg hx
  rw [e1, e2] at ho
  obtain ⟨a, b, c, d, hp⟩ := h.procs p hpL
  obtain ⟨n, hn⟩ : ∃ n : Nat, p.pending = (n : Int) := ⟨p.pending.toNat, by omega⟩
  have c12 : w.cell? ⟨bl p.id, 12, none⟩ = some (.int .i64 n) := by rw [hp.cell 12, ← hn]; rfl
  have c11 : w.cell? ⟨bl p.id, 11, none⟩ = some (.int .i64 p.mask) := hp.cell 11
  have c12' : w.drew.cell? ⟨bl p.id, 12, none⟩ = some (.int .i64 n) := c12
  have c11' : w.drew.cell? ⟨bl p.id, 11, none⟩ = some (.int .i64 p.mask) := c11
  have ht := take_walk n p.mask (by omega)
  rw [hn, Int.toNat_natCast] at hz
  rw [hz] at ht
  have HT := Lib.hid h
  have HB : Hid (B ≤ w.heap.size) := by have := h.lowT; have := h.ltT; show _ ≤ _; omega
  generalize p.mask = mk at *
  unfold ptr at *
  generalize bl p.id = g at *
  clear h hg e1 e2 hp hz hx h3 h4 hn hpid hpL
  go_enter Tryz.func36, Tryz.ntmps36
  go_wp2_with (go_at_call 23; refine ho.mono ?_; rintro e w1 ⟨rfl, rfl⟩)
  go_region
  all_goals
    go_wp2
    go_ret2
    exact ⟨rfl, HT.out.below ((Below.refl _ _).drew), (Bel.refl _ _).drew⟩
set_option maxRecDepth 100000 in
set_option maxHeartbeats 1000000 in
/-- The least that is pending is taken. -/
theorem pending_some (B T M : Nat) (bl : ByteArray → Nat) (L : List PR) (id : ByteArray) (w : World) (p : PR) (h : TabAt w B T M bl L) (hid : id.size ≤ maxLen) (hg : get L id = some p) (hx : p.exited = false) (h3 : 0 ≤ p.pending) (h4 : p.pending < 65536) (s : Nat) (hz : (takeN p.pending.toNat p.mask).testBit s = true) (hl : ∀ k, k < s → (takeN p.pending.toNat p.mask).testBit k = false) (hT : _root_.Go.Proofs.TabAt 1 Lib.deBruijn64tab w) (h1 : 1 < w.heap.size) :
    Calls Tryz.prog 36 #[ptr T, .string id] w fun e w' => e = .returned (.tuple #[.int .i64 s, .bool true]) ∧ TabAt w' B T M bl (updP (pendP p s) L) ∧ Bel B w w' := by
  obtain ⟨hpL, hpid⟩ := get_mem hg
  have ho := of_any B T M bl L id w h hid
  obtain ⟨e1, e2⟩ := of_live (bl := bl) hg hx
  rw [e1, e2] at ho
  obtain ⟨a, b, c, d, hp⟩ := h.procs p hpL
  obtain ⟨n, hn⟩ : ∃ n : Nat, p.pending = (n : Int) := ⟨p.pending.toNat, by omega⟩
  have c12 : w.cell? ⟨bl p.id, 12, none⟩ = some (.int .i64 n) := by rw [hp.cell 12, ← hn]; rfl
  have c11 : w.cell? ⟨bl p.id, 11, none⟩ = some (.int .i64 p.mask) := hp.cell 11
  have c12' : w.drew.cell? ⟨bl p.id, 12, none⟩ = some (.int .i64 n) := c12
  have c11' : w.drew.cell? ⟨bl p.id, 11, none⟩ = some (.int .i64 p.mask) := c11
  have c12'' : w.drew.drew.cell? ⟨bl p.id, 12, none⟩ = some (.int .i64 n) := c12
  have f12 : w.drew.frozen? ⟨bl p.id, 12, none⟩ = false := hp.frozen 12
  have f12' : w.drew.drew.frozen? ⟨bl p.id, 12, none⟩ = false := f12
  have ht := take_walk n p.mask (by omega)
  rw [hn, Int.toNat_natCast] at hz hl
  obtain ⟨N, hN⟩ : ∃ N, N = takeN n p.mask := ⟨_, rfl⟩
  have hNn := takeN_le n p.mask (by omega)
  rw [← hN] at ht hz hl hNn
  have hN0 : N ≠ 0 := by rintro rfl; simp at hz
  have hct := ctz_least (by omega) hz hl
  have hs16 := ctz_lt hN0 (by omega)
  rw [hct] at hs16
  have cz := fun W' k => Tryz.bits_TrailingZeros N (by omega) W' (fun _ => tab_below (B := w.heap.size) hT k h1)
  rw [hct] at cz
  have CZ := Lib.hid cz
  have hcast : (2 : Int) ^ s = ((2 ^ s : Nat) : Int) := (Int.natCast_pow 2 s).symm
  have hp16 : (2 : Nat) ^ s < 65536 := Nat.lt_of_le_of_lt (Nat.pow_le_pow_right (n := 2) (by omega) (show s ≤ 15 by omega)) (by decide)
  have hcl := clear_walk n s (by omega)
  have hpe : pendP p s = { p with pending := (clearN n s : Int) } := by unfold pendP; rw [hn, Int.toNat_natCast]
  obtain ⟨P, hP⟩ : ∃ P : Nat, 2 ^ s = P := ⟨_, rfl⟩
  rw [hP] at hp16 hcl hcast
  have hsh : wrap64 (P : Int) = (P : Int) := by unfold wrap64; omega
  have hcl2 : clearN n s ≤ n := clearN_le n s (by omega)
  generalize clearN n s = C at *
  have hset := h.set (p' := { p with pending := (C : Int) }) hpL rfl 12 (.int .i64 C) (fun a b c d => rfl) rfl rfl rfl rfl
  rw [← hpe] at hset
  have HSET := Lib.hid hset
  have hlow := h.lowP p hpL
  have HB : Hid (Bel B w (w.setCell ⟨bl p.id, 12, none⟩ (.int .i64 C))) := (Bel.refl B w).set66 (i := 12) hp.row hlow (.int .i64 C) h.lowB
  have hn1 : 0 ≤ (n : Int) := by omega
  have hn2 : (n : Int) < 65536 := by omega
  have dN : ((N : Int) == 0) = false := by simp; omega
  have hw64 : IntKind.u64.wrap (N : Int) = (N : Int) := by rw [IntKind.wrap_u64]; omega
  have hs1 : (s : Int) ≤ 15 := by omega
  generalize p.mask = mk at *
  unfold ptr at *
  generalize bl p.id = g at *
  clear h hg e1 e2 hp hz hx h3 h4 hn hpid hpL hl cz hset hpe hN hT hct
  clear hN0 hNn hs16 hcl2 hp16
  go_enter Tryz.func36, Tryz.ntmps36
  go_wp2_with (go_at_call 23; refine ho.mono ?_; rintro e w1 ⟨rfl, rfl⟩)
  go_region
  all_goals
    go_wp2_with (go_at_call 74; refine (CZ.out _ ((Below.refl _ _).drew)).mono ?_; rintro e w2 ⟨rfl, rfl⟩)
    go_region
  all_goals
    go_wp2
    go_ret2
    exact ⟨rfl, HSET.out.below ((Below.refl _ _).drew.drew), HB.out.drew.drew⟩
end Go.Proofs.YtmphnoabkmoafaaGreatDoor
