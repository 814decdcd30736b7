/- awake: what the document fixes. The calls as steps that the kernel can compute: Fork, Exit, Wait, Tag. Whole numbers and masks; strings that rise. -/
import Derived.Test.YtmphnoabkmoafaaGreatDoorM23
import Derived.Test.YtmphnoabkmoafaaGreatDoorM19
import Derived.Test.YtmphnoabkmoafaaGreatDoorM24
import Derived.Test.YtmphnoabkmoafaaGreatDoorM20
import Derived.Laws.BitsLemmas
import Derived.WideAt
namespace Go.Proofs.YtmphnoabkmoafaaGreatDoor
open Go.RowKit Go.Maps
set_option linter.unusedVariables false
variable {uu0 : Unit} [Base uu0]
theorem digs_one {n : Int} (h0 : 0 ≤ n) (h1 : n < 10) : digs n = ⟨#[UInt8.ofNat (48 + n.toNat)]⟩ := by
  unfold digs
  rw [Lib.decDigits_one (by omega)]
def b11 : ByteArray := ⟨#[49, 46, 49]⟩
def b199 : ByteArray := ⟨#[49, 46, 57, 46, 57]⟩
def aP1 : PR := ⟨oneB, ⟨#[]⟩, [], [], [], [], 2, 0, false, 1, 0, 0, 0⟩
def aC1 : PR := ⟨b11, oneB, [], [], [], [], 2, 0, false, 0, 0, 0, 0⟩
def aC2 : PR := { aC1 with exited := true, status := 7 }
def aP5 : PR := { aP1 with share := 5 }
theorem child11 : childId oneB (0 + 1) = b11 := by
  unfold childId
  rw [digs_one (by omega) (by omega)]
  rfl
theorem fine_of (p : PR) (h : p.S.length ≤ 100 ∧ p.I.length ≤ 100 ∧ p.Plus.length ≤ 100 ∧ p.Minus.length ≤ 100 ∧ 0 ≤ p.forks ∧ p.forks ≤ 9 ∧ 0 ≤ p.tags ∧ p.tags ≤ 9 ∧ 0 ≤ p.share ∧ p.share ≤ 1000000 ∧ p.id.size ≤ 15)
    (hc : ∀ (i : Nat) (h : i < p.id.size), (p.id[i]'h).toNat = 46 ∨ 49 ≤ (p.id[i]'h).toNat ∧ (p.id[i]'h).toNat ≤ 57) : Fine p := by
  obtain ⟨h1, h2, h3, h4, h5, h6, h7, h8, h9, h10, h11⟩ := h
  exact ⟨by omega, by omega, by omega, by omega, h5, h6, h7, h8, h9, h10, h11, hc⟩
theorem one_chars : ∀ (i : Nat) (h : i < oneB.size), (oneB[i]'h).toNat = 46 ∨ 49 ≤ (oneB[i]'h).toNat ∧ (oneB[i]'h).toNat ≤ 57 := by decide
theorem b11_chars : ∀ (i : Nat) (h : i < b11.size), (b11[i]'h).toNat = 46 ∨ 49 ≤ (b11[i]'h).toNat ∧ (b11[i]'h).toNat ≤ 57 := by decide
theorem fine_first (share : Int) (h0 : 0 ≤ share) (h1 : share ≤ 1000) : Fine (firstP share) := fine_of _ (by simp only [firstP]; exact ⟨by decide, by decide, by decide, by decide, by decide, by decide, by decide, by decide, h0, by omega, by decide⟩) one_chars
theorem fine_aP1 : Fine aP1 := fine_of _ (by decide) one_chars
theorem fine_aP5 : Fine aP5 := fine_of _ (by decide) one_chars
theorem fine_aC1 : Fine aC1 := fine_of _ (by decide) b11_chars
theorem fine_aC2 : Fine aC2 := fine_of _ (by decide) b11_chars
theorem aL1 : putP (child (firstP 5) 2) (delP (childId oneB (0 + 1)) (updP (parentP (firstP 5) 2) [firstP 5])) = [aP1, aC1] := by
  have e : child (firstP 5) 2 = aC1 := by
    unfold child
    rw [show childId (firstP 5).id ((firstP 5).forks + 1) = b11 from child11]
    rfl
  rw [e, child11]
  have h : putP aC1 (delP b11 (updP (parentP (firstP 5) 2) [firstP 5])) = [aP1, aC1] := by kernel_rfl
  exact h
theorem aL3 : moveP (childOf b11) (updP (exitP aC1 7) [aP1, aC1]) = [aP1, aC2] := by kernel_rfl
theorem aL4 : delP b11 (updP (waitP aP1 aC2) [aP1, aC2]) = [aP5] := by kernel_rfl
theorem aW : waitFind [aP1, aC2] oneB aP1 = some aC2 := by kernel_rfl
theorem norm11 (n : Int) : normL [n] = [n] := normL_eq [n] [n] (by simp) (fun x => Iff.rfl)
theorem set_one (n : Int) (h0 : 1 ≤ n) (h1 : n ≤ 2147483647) : setL [n] = true := by
  unfold setL
  simp [risesTo, h0, h1]
theorem joinOk_nil (n : Int) (h0 : 1 ≤ n) (h1 : n ≤ 2147483647) : joinOk [] [n] = true := by
  unfold joinOk
  rw [List.nil_append, norm11, set_one n h0 h1]
  rfl
theorem aTag : tagN aP5 = 11 := by kernel_rfl
theorem aOk : tagOk aP5 = true := by
  unfold tagOk
  rw [aTag]
  have : joinOk aP5.Plus [11] = true := joinOk_nil 11 (by omega) (by omega)
  have h2 : joinOk aP5.Minus [11] = true := joinOk_nil 11 (by omega) (by omega)
  rw [this, h2]
  rfl
set_option maxRecDepth 100000 in
set_option maxHeartbeats 1000000 in
theorem awake_any (w : World) : Calls Tryz.prog 12 #[] w fun e w' => e = .returned (.bool true) ∧ Below w.heap.size w w' := by
  letI : Base () := ⟨0⟩
  have c0 := new_ok 5 w (by omega) (by omega) (Nat.zero_le _)
  have c1 : ∀ w1 B T M bl, TabAt w1 B T M bl [firstP 5] → Calls Tryz.prog 27 #[ptr T, .string ⟨#[49]⟩, .int .i64 2] w1 fun e w' => ∃ bl', e = .returned (.tuple #[.string ⟨#[49, 46, 49]⟩, .int .i64 0]) ∧ TabAt w' B T M bl' [aP1, aC1] ∧ Bel B w1 w' := fun w1 B T M bl h => by
    refine (fork_ok B T M bl [firstP 5] oneB 2 w1 (firstP 5) h (fine_first 5 (by omega) (by omega)) (by kernel_rfl) rfl (by omega) (by decide) (by decide) (by decide) (by simp)).mono ?_
    rintro e w' ⟨bl', rfl, h1, h2⟩
    rw [show (firstP 5).forks = 0 from rfl, aL1] at h1
    exact ⟨bl', by rw [show (firstP 5).forks = 0 from rfl, child11]; rfl, h1, h2⟩
  have c2 : ∀ w1 B T M bl, TabAt w1 B T M bl [aP1, aC1] → Calls Tryz.prog 27 #[ptr T, .string ⟨#[49]⟩, .int .i64 2] w1 fun e w' => e = .returned (.tuple #[.string ⟨#[]⟩, .int .i64 65]) ∧ w' = w1 := fun w1 B T M bl h =>
    have e : forkErr [aP1, aC1] oneB 2 = 65 := by kernel_rfl
    (fork_no B T M bl [aP1, aC1] oneB 2 w1 h (fun p hp => by rcases List.mem_cons.1 hp with rfl | hp; exact fine_aP1; rw [List.mem_singleton.1 hp]; exact fine_aC1) (by decide) (by rw [e]; decide)).mono (by rintro e' w' ⟨rfl, rfl⟩; exact ⟨by rw [e], rfl⟩)
  have c3 : ∀ w1 B T M bl, TabAt w1 B T M bl [aP1, aC1] → Calls Tryz.prog 28 #[ptr T, .string ⟨#[49, 46, 49]⟩, .int .i64 7] w1 fun e w' => e = .returned (.int .i64 0) ∧ TabAt w' B T M bl [aP1, aC2] ∧ Bel B w1 w' := fun w1 B T M bl h => by
    have := exit_ok B T M bl [aP1, aC1] b11 7 w1 aC1 h (by decide) (by kernel_rfl) rfl (by decide)
    rw [aL3] at this
    exact this
  have c4 : ∀ w1 B T M bl, TabAt w1 B T M bl [aP1, aC2] → Calls Tryz.prog 29 #[ptr T, .string ⟨#[49]⟩] w1 fun e w' => e = .returned (.tuple #[.string ⟨#[49, 46, 49]⟩, .int .i64 7, .int .i64 0]) ∧ TabAt w' B T M bl [aP5] ∧ Bel B w1 w' := fun w1 B T M bl h => by
    refine (wait_live B T M bl [aP1, aC2] oneB w1 aP1 h (fun p hp => by rcases List.mem_cons.1 hp with rfl | hp; exact fine_aP1; rw [List.mem_singleton.1 hp]; exact fine_aC2) (by kernel_rfl) rfl (by simp)).mono ?_
    rintro e w' ⟨h1 | h1, h2⟩
    · obtain ⟨c, hc, rfl, ht⟩ := h1
      rw [aW] at hc
      cases hc
      rw [show aC2.id = b11 from rfl, aL4] at ht
      exact ⟨rfl, ht, h2⟩
    · rw [aW] at h1
      cases h1.1
  have c5 : ∀ w1 B T M bl, TabAt w1 B T M bl [aP5] → Calls Tryz.prog 7 #[ptr T, .string ⟨#[49]⟩] w1 fun e w' => e = .returned (.tuple #[.int .i64 11, .int .i64 0]) ∧ TabAt w' B T M bl (updP (tagP aP5) [aP5]) ∧ Bel B w1 w' := fun w1 B T M bl h => by
    have := tag_ok B T M bl [aP5] oneB w1 aP5 h fine_aP5 (by kernel_rfl) rfl aOk
    rw [aTag] at this
    exact this
  have c6 : ∀ w1 B T M bl, TabAt w1 B T M bl (updP (tagP aP5) [aP5]) → Calls Tryz.prog 34 #[ptr T, .string ⟨#[49]⟩, .string ⟨#[49, 46, 57, 46, 57]⟩, .int .i64 3] w1 fun e w' => e = .returned (.int .i64 0) ∧ TabAt w' B T M bl (updP (tagP aP5) [aP5]) ∧ Bel B w1 w' := fun w1 B T M bl h =>
    signal_none B T M bl _ oneB b199 3 w1 h (by decide) (by decide) (by kernel_rfl) (by omega) (by omega) (by kernel_rfl) (by kernel_rfl)
  unfold ptr at *
  go_enter Tryz.func12, Tryz.ntmps12
  go_wp2_with (first
    | (go_at_call 6; refine c0.mono ?_; rintro e w1 ⟨T, M, bl, rfl, t1, b1⟩; obtain ⟨G0⟩ : Nonempty Nat := ⟨0⟩)
    | (go_at_call 27; have G1 := G0; clear G0; refine (c1 _ _ _ _ _ t1).mono ?_; rintro e w2 ⟨bl2, rfl, t2, b2⟩)
    | (go_at_call 27; have G2 := G1; clear G1; refine (c2 _ _ _ _ _ t2).mono ?_; rintro e w3 ⟨rfl, rfl⟩)
    | (go_at_call 28; refine (c3 _ _ _ _ _ t2).mono ?_; rintro e w4 ⟨rfl, t4, b4⟩)
    | (go_at_call 29; refine (c4 _ _ _ _ _ t4).mono ?_; rintro e w5 ⟨rfl, t5, b5⟩)
    | (go_at_call 7; refine (c5 _ _ _ _ _ t5).mono ?_; rintro e w6 ⟨rfl, t6, b6⟩)
    | (go_at_call 34; refine (c6 _ _ _ _ _ t6).mono ?_; rintro e w7 ⟨rfl, t7, b7⟩))
  go_ret
  exact ⟨rfl, b1.trans ((b2.trans (b4.trans (b5.trans (b6.trans b7)))).toBelow)⟩
end Go.Proofs.YtmphnoabkmoafaaGreatDoor
namespace Go.Proofs.YtmphnoabkmoafaaGreatDoor
open Go.RowKit Go.Maps
set_option linter.unusedVariables false
variable {uu0 : Unit} [Base uu0]
def cidK (id : ByteArray) (n : Int) : ByteArray := id ++ ⟨#[46]⟩ ++ ⟨#[UInt8.ofNat (48 + n.toNat)]⟩
theorem cidK_eq {n : Int} (id : ByteArray) (h0 : 0 ≤ n) (h1 : n < 10) : childId id n = cidK id n := by
  unfold childId cidK
  rw [digs_one h0 h1]
def fineB (p : PR) : Bool :=
  decide (p.S.length ≤ 100) && decide (p.I.length ≤ 100) && decide (p.Plus.length ≤ 100) && decide (p.Minus.length ≤ 100) && decide (0 ≤ p.forks) && decide (p.forks ≤ 9) && decide (0 ≤ p.tags) && decide (p.tags ≤ 9) && decide (0 ≤ p.share) && decide (p.share ≤ 1000000) && decide (p.id.size ≤ 15) && p.id.data.toList.all fun c => decide (c.toNat = 46) || decide (49 ≤ c.toNat) && decide (c.toNat ≤ 57)
theorem fine_fineB {p : PR} (h : fineB p = true) : Fine p := by
  unfold fineB at h
  simp only [Bool.and_eq_true, decide_eq_true_eq] at h
  obtain ⟨⟨⟨⟨⟨⟨⟨⟨⟨⟨⟨h1, h2⟩, h3⟩, h4⟩, h5⟩, h6⟩, h7⟩, h8⟩, h9⟩, h10⟩, h11⟩, h12⟩ := h
  refine ⟨by omega, by omega, by omega, by omega, h5, h6, h7, h8, h9, h10, h11, fun i hi => ?_⟩
  have := List.all_eq_true.1 h12 (p.id[i]'hi) (by
    rw [ByteArray.getElem_eq_getElem_data]
    exact Array.getElem_mem_toList _)
  simpa using this
def childK (p : PR) (share : Int) : PR := ⟨cidK p.id (p.forks + 1), p.id, p.S, p.I, p.Plus, p.Minus, share, 0, false, 0, 0, p.mask, 0⟩
/-- Fork that goes well. -/
def forkK (L : List PR) (id : ByteArray) (share : Int) : Option (ByteArray × List PR) := match get L id with
  | none => none
  | some p => if !p.exited && decide (0 ≤ share) && decide (share < p.share) && decide (p.forks < 9) && decide (id.size < 15) && fineB p && decide (L.length < 1000) then some (cidK id (p.forks + 1), putP (childK p share) (delP (cidK id (p.forks + 1)) (updP (parentP p share) L))) else none
theorem forkK_call {B T M : Nat} {bl : ByteArray → Nat} {L L' : List PR} {id s : ByteArray} {share : Int} {w : World} (hk : forkK L id share = some (s, L')) (h : TabAt w B T M bl L) :
    Calls Tryz.prog 27 #[ptr T, .string id, .int .i64 share] w fun e w' => ∃ bl', e = .returned (.tuple #[.string s, .int .i64 0]) ∧ TabAt w' B T M bl' L' ∧ Bel B w w' := by
  unfold forkK at hk
  split at hk
  · cases hk
  · rename_i p hg
    split at hk
    · rename_i hc
      simp only [Bool.and_eq_true, decide_eq_true_eq, Bool.not_eq_true'] at hc
      obtain ⟨⟨⟨⟨⟨⟨h1, h2⟩, h3⟩, h4⟩, h5⟩, h6⟩, h7⟩ := hc
      have hF := fine_fineB h6
      have hf0 := hF.f0
      have hp := (get_mem hg).2
      have e : cidK id (p.forks + 1) = childId id (p.forks + 1) := (cidK_eq id (by omega) (by omega)).symm
      have e2 : childK p share = child p share := by unfold childK child; rw [hp, e]
      rw [e, e2] at hk
      cases hk
      exact fork_ok B T M bl L id share w p h hF hg h1 h2 h3 h4 h5 (by omega)
    · cases hk
/-- Exit that goes well. -/
def exitK (L : List PR) (id : ByteArray) (status : Int) : Option (List PR) := match get L id with
  | none => none
  | some p => if !p.exited && !decide (id = oneB) && decide (id.size < 1000) then some (moveP (childOf id) (updP (exitP p status) L)) else none
theorem exitK_call {B T M : Nat} {bl : ByteArray → Nat} {L L' : List PR} {id : ByteArray} {status : Int} {w : World} (hk : exitK L id status = some L') (h : TabAt w B T M bl L) :
    Calls Tryz.prog 28 #[ptr T, .string id, .int .i64 status] w fun e w' => e = .returned (.int .i64 0) ∧ TabAt w' B T M bl L' ∧ Bel B w w' := by
  unfold exitK at hk
  split at hk
  · cases hk
  · rename_i p hg
    split at hk
    · rename_i hc
      simp only [Bool.and_eq_true, decide_eq_true_eq, Bool.not_eq_true', decide_eq_false_iff_not] at hc
      obtain ⟨⟨h1, h2⟩, h3⟩ := hc
      cases hk
      exact exit_ok B T M bl L id status w p h (by unfold maxLen; omega) hg h1 h2
    · cases hk
/-- Wait by one that lives. -/
def waitK (L : List PR) (id : ByteArray) : Option (ByteArray × Int × Int × List PR) := match get L id with
  | none => none
  | some p => if !p.exited && L.all fineB && decide (L.length < 1000) then
      (match waitFind L id p with
      | some c => some (c.id, c.status, 0, delP c.id (updP (waitP p c) L))
      | none => some (⟨#[]⟩, 0, if L.any (childOf id) then 63 else 61, L)) else none
theorem waitK_call {B T M : Nat} {bl : ByteArray → Nat} {L L' : List PR} {id s : ByteArray} {st code : Int} {w : World} (hk : waitK L id = some (s, st, code, L')) (h : TabAt w B T M bl L) :
    Calls Tryz.prog 29 #[ptr T, .string id] w fun e w' => e = .returned (.tuple #[.string s, .int .i64 st, .int .i64 code]) ∧ TabAt w' B T M bl L' ∧ Bel B w w' := by
  unfold waitK at hk
  split at hk
  · cases hk
  · rename_i p hg
    split at hk
    · rename_i hc
      simp only [Bool.and_eq_true, decide_eq_true_eq, Bool.not_eq_true'] at hc
      obtain ⟨⟨h1, h2⟩, h3⟩ := hc
      refine (wait_live B T M bl L id w p h (fun q hq => fine_fineB (List.all_eq_true.1 h2 q hq)) hg h1 (by omega)).mono ?_
      rintro e w' ⟨⟨c, hc, rfl, ht⟩ | ⟨hc, rfl, ht⟩, hb⟩
      · rw [hc] at hk
        cases hk
        exact ⟨rfl, ht, hb⟩
      · rw [hc] at hk
        cases hk
        exact ⟨rfl, ht, hb⟩
    · cases hk
/-- Tag that goes well. -/
def tagK (L : List PR) (id : ByteArray) : Option (Int × List PR) := match get L id with
  | none => none
  | some p => if !p.exited && fineB p && tagOk p then some (tagN p, updP (tagP p) L) else none
theorem tagK_call {B T M : Nat} {bl : ByteArray → Nat} {L L' : List PR} {id : ByteArray} {n : Int} {w : World} (hk : tagK L id = some (n, L')) (h : TabAt w B T M bl L) :
    Calls Tryz.prog 7 #[ptr T, .string id] w fun e w' => e = .returned (.tuple #[.int .i64 n, .int .i64 0]) ∧ TabAt w' B T M bl L' ∧ Bel B w w' := by
  unfold tagK at hk
  split at hk
  · cases hk
  · rename_i p hg
    split at hk
    · rename_i hc
      simp only [Bool.and_eq_true, Bool.not_eq_true'] at hc
      obtain ⟨⟨h1, h2⟩, h3⟩ := hc
      cases hk
      exact tag_ok B T M bl L id w p h (fine_fineB h2) hg h1 h3
    · cases hk
end Go.Proofs.YtmphnoabkmoafaaGreatDoor
namespace Go.Proofs.YtmphnoabkmoafaaGreatDoor
open Go.RowKit
theorem and_small (n : Int) (m : Nat) (hm : m < 9223372036854775808) : 0 ≤ bits BinOp.and IntKind.i64 n (m : Int) ∧ bits BinOp.and IntKind.i64 n (m : Int) ≤ m := by
  have h1 : m % 2 ^ 64 = m := Nat.mod_eq_of_lt (by omega)
  have e : bits BinOp.and IntKind.i64 n (m : Int) = IntKind.i64.wrap (((BitVec.ofInt 64 n).toNat &&& m : Nat) : Int) := by
    unfold bits
    simp only [show IntKind.i64.bits = 64 from rfl, BitVec.ofInt_natCast, BitVec.toNat_and, BitVec.toNat_ofNat, h1]
    rfl
  rw [e, IntKind.wrap_i64]
  have h2 : (BitVec.ofInt 64 n).toNat &&& m ≤ m := Nat.and_le_right
  omega
theorem less_before : ∀ a b : List UInt8, Op.bytesLess a b = bytesBefore a b
  | [], [] => by simp [Op.bytesLess, bytesBefore]
  | [], _ :: _ => by simp [Op.bytesLess, bytesBefore]
  | _ :: _, [] => by simp [Op.bytesLess, bytesBefore]
  | a :: r, b :: s => by simp [Op.bytesLess, bytesBefore, less_before r s]
theorem rises_walk {s t : ByteArray} (h : (keyL s).before (keyL t) = true) : (Op.bytesLess t.toList s.toList || t.toList == s.toList) = false := by
  have h : bytesBefore s.data.toList t.data.toList = true := h
  rw [less_before, ByteArray.toList_eq, ByteArray.toList_eq]
  rw [Bool.or_eq_false_iff]
  constructor
  · cases hb : bytesBefore t.data.toList s.data.toList
    · rfl
    · exact absurd (WideShapes.bytes_trans _ _ _ h hb) (by rw [WideAt.bytes_irrefl]; simp)
  · rw [beq_eq_false_iff_ne]
    intro e
    rw [e, WideAt.bytes_irrefl] at h
    cases h
end Go.Proofs.YtmphnoabkmoafaaGreatDoor
