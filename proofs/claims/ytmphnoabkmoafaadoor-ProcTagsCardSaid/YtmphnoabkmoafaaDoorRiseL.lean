/- ProcRises as a game that the kernel plays. -/
import Derived.Test.YtmphnoabkmoafaaDoorStrs
import Derived.Test.YtmphnoabkmoafaaDoorBitsL
namespace Go.Proofs.YtmphnoabkmoafaaDoor
open Go.RowKit Go.Maps
set_option linter.unusedVariables false
/-- Change that goes well. -/
def changeK (L : List PR) (id : ByteArray) (lS lI : List Int) : Option (List PR) := match get L id with
  | none => none
  | some p => if !p.exited && L.all fineB && decide (id.size < 1000) && decide (lS.length ≤ 100) && decide (lI.length ≤ 100) && (setL lS && setL lI) && mayChange p lS lI then some (moveP (leaves id lS lI) (updP (relP p lS lI) L)) else none
theorem changeK_call {B T M : Nat} {bl : ByteArray → Nat} {L L' : List PR} {id : ByteArray} {vS vI : Value} {lS lI : List Int} {w : World} (hk : changeK L id lS lI = some L') (h : TabAt w B T M bl L) (hS : IntsAt w vS lS) (hI : IntsAt w vI lI) :
    Calls Tryd.prog 22 #[ptr T, .string id, .agg #[vS, vI]] w fun e w' => e = .returned (.int .i64 0) ∧ TabAt w' B T M bl L' ∧ Bel B w w' := by
  unfold changeK at hk
  split at hk
  · cases hk
  · rename_i p hg
    split at hk
    · rename_i hc
      rw [Bool.and_eq_true, Bool.and_eq_true, Bool.and_eq_true, Bool.and_eq_true, Bool.and_eq_true, Bool.and_eq_true, Bool.not_eq_true'] at hc
      simp only [decide_eq_true_eq] at hc
      obtain ⟨⟨⟨⟨⟨⟨h1, h2⟩, h3⟩, h4⟩, h5⟩, h6⟩, h7⟩ := hc
      cases hk
      exact change_ok B T M bl L id vS vI lS lI w p h (fun q hq => fine_fineB (List.all_eq_true.1 h2 q hq)) (by unfold maxLen; omega) hg h1 hS hI (by omega) (by omega) h6 h7
    · cases hk
theorem joinL_nil (n : Int) (h0 : 1 ≤ n) (h1 : n ≤ 2147483647) : joinL [] [n] = [n] := by
  unfold joinL normV
  rw [List.nil_append, norm11, set_one n h0 h1]
  rfl
/-- Tag by one that has none. -/
def tag1 (p : PR) (n : Int) : PR := { p with tags := p.tags + 1, Plus := [n], Minus := [n] }
def tagK1 (L : List PR) (id : ByteArray) (n : Int) : Option (List PR) := match get L id with
  | none => none
  | some p => if !p.exited && fineB p && decide (p.tags < 9) && decide (tagN p = n) && decide (1 ≤ n) && decide (n ≤ 2147483647) && decide (p.Plus = []) && decide (p.Minus = []) then some (updP (tag1 p n) L) else none
theorem tagK1_eq {L L' : List PR} {id : ByteArray} {n : Int} (h : tagK1 L id n = some L') : tagK L id = some (n, L') := by
  unfold tagK1 at h
  unfold tagK
  split at h
  · cases h
  · rename_i p hg
    rw [hg]
    split at h
    · rename_i hc
      simp only [Bool.and_eq_true, decide_eq_true_eq, Bool.not_eq_true'] at hc
      obtain ⟨⟨⟨⟨⟨⟨⟨h1, h2⟩, h3⟩, h4⟩, h5⟩, h6⟩, h7⟩, h8⟩ := hc
      have e1 : tagOk p = true := by
        unfold tagOk
        rw [h4, h7, h8, joinOk_nil n h5 h6]
        simp [h3]
      have e2 : tagP p = tag1 p n := by
        unfold tagP tag1
        rw [h4, h7, h8, joinL_nil n h5 h6]
      simp only [h1, h2, e1, e2, h4]
      cases h
      rfl
    · cases h
/-- Process 1 waits for the children, one by one. -/
def rise3 (ids : List ByteArray) (high : ByteArray) : Nat → Nat → List PR → Bool
  | 0, i, L => match waitK L oneB with
    | some (_, _, g, L1) => decide (g = 63) && (match exitK L1 high 9 with
      | some L2 => (match waitK L2 b11 with | some (s, st, g, _) => decide (s = high) && decide (st = 9) && decide (g = 0) | none => false)
      | none => false)
    | none => false
  | f + 1, i, L => match waitK L oneB with
    | some (s, st, g, L1) => decide (g = 0) && decide (ids[i]? = some s) && decide (st = (i : Int)) && rise3 ids high f (i + 1) L1
    | none => false
/-- The others end. -/
def rise2 (ids : List ByteArray) (bits : List Bool) (high : ByteArray) (n : Nat) : Nat → Nat → List PR → Bool
  | 0, i, L => match waitK L b11 with | some (_, _, g, L1) => decide (g = 63) && rise3 ids high n 0 L1 | none => false
  | f + 1, i, L => match bits[i]?, ids[i]? with
    | some true, some _ => rise2 ids bits high n f (i + 1) L
    | some false, some c => (match exitK L c i with | some L1 => rise2 ids bits high n f (i + 1) L1 | none => false)
    | _, _ => false
/-- The children that are made, of which some end early. -/
def rise1 (n : Nat) : Nat → Nat → List ByteArray → List Bool → List PR → Bool
  | 0, i, ids, bits, L => decide (i = n) && (match changeK L b11 [111] [] with
    | some L1 => (match waitK L1 b11 with
      | some (_, _, g, L2) => decide (g = 61) && (match forkK L2 b11 0 with | some (high, L3) => rise2 ids bits high n n 0 L3 | none => false)
      | none => false)
    | none => false)
  | f + 1, i, ids, bits, L => decide (i < n) && (match forkK L b11 0 with
    | none => false
    | some (c, L1) => rise1 n f (i + 1) (ids ++ [c]) (bits ++ [false]) L1 && (match exitK L1 c i with | none => false | some L2 => rise1 n f (i + 1) (ids ++ [c]) (bits ++ [true]) L2))
def rL0 : List PR := match forkK [firstP 40] oneB 30 with | some (_, L) => L | none => []
theorem rL0_eq : forkK [firstP 40] oneB 30 = some (b11, rL0) := by kernel_rfl
def rL1 : List PR := match tagK1 rL0 b11 111 with | some L => L | none => []
theorem rL1_eq : tagK1 rL0 b11 111 = some rL1 := by kernel_rfl
theorem rise_1 : rise1 1 1 0 [] [] rL1 = true := by kernel_rfl
theorem rise_2 : rise1 2 2 0 [] [] rL1 = true := by kernel_rfl
theorem rise_3 : rise1 3 3 0 [] [] rL1 = true := by kernel_rfl
theorem rise_4 : rise1 4 4 0 [] [] rL1 = true := by kernel_rfl
theorem rise_5 : rise1 5 5 0 [] [] rL1 = true := by kernel_rfl
theorem rise_6 : rise1 6 6 0 [] [] rL1 = true := by kernel_rfl
theorem rise_7 : rise1 7 7 0 [] [] rL1 = true := by kernel_rfl
theorem rise_8 : rise1 8 8 0 [] [] rL1 = true := by kernel_rfl
end Go.Proofs.YtmphnoabkmoafaaDoor
