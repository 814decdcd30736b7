/- The calls as steps that the kernel can compute: Fork, Exit, Wait, Tag. -/
import Derived.Test.YtmphnoabkmoafaaDoorAwake
import Derived.Test.YtmphnoabkmoafaaDoorInfo
namespace Go.Proofs.YtmphnoabkmoafaaDoor
open Go.RowKit Go.Maps
set_option linter.unusedVariables false
def cidK (id : ByteArray) (n : Int) : ByteArray := id ++ ⟨#[46]⟩ ++ ⟨#[UInt8.ofNat (48 + n.toNat)]⟩
theorem cidK_eq {n : Int} (id : ByteArray) (h0 : 0 ≤ n) (h1 : n < 10) : childId id n = cidK id n := by
  unfold childId cidK
  rw [digs_one h0 h1]
def fineB (p : PR) : Bool :=
  decide (p.S.length ≤ 100) && decide (p.I.length ≤ 100) && decide (p.Plus.length ≤ 100) && decide (p.Minus.length ≤ 100) && decide (0 ≤ p.forks) && decide (p.forks ≤ 9) && decide (0 ≤ p.tags) && decide (p.tags ≤ 9) && decide (0 ≤ p.share) && decide (p.share ≤ 1000000) && decide (p.id.size ≤ 15) && p.id.data.toList.all fun c => decide (c.toNat = 46) || decide (49 ≤ c.toNat) && decide (c.toNat ≤ 57)
theorem fine_fineB {p : PR} (h : fineB p = true) : Fine p := by
  unfold fineB at h
  simp only [Bool.and_eq_true, decide_eq_true_eq] at h
  obtain ⟨⟨⟨⟨⟨⟨⟨⟨⟨⟨⟨h1, h2⟩, h3⟩, h4⟩, h5⟩, h6⟩, h7⟩, h8⟩, h9⟩, h10⟩, h11⟩, h12⟩ := h
  refine ⟨by omega, by omega, by omega, by omega, h5, h6, h7, h8, h9, h10, h11, fun i hi => ?_⟩
  have := List.all_eq_true.1 h12 (p.id[i]'hi) (by
    rw [ByteArray.getElem_eq_getElem_data]
    exact Array.getElem_mem_toList _)
  simpa using this
def childK (p : PR) (share : Int) : PR := ⟨cidK p.id (p.forks + 1), p.id, p.S, p.I, p.Plus, p.Minus, share, 0, false, 0, 0, p.mask, 0⟩
/-- Fork that goes well. -/
def forkK (L : List PR) (id : ByteArray) (share : Int) : Option (ByteArray × List PR) := match get L id with
  | none => none
  | some p => if !p.exited && decide (0 ≤ share) && decide (share < p.share) && decide (p.forks < 9) && decide (id.size < 15) && fineB p && decide (L.length < 1000) then some (cidK id (p.forks + 1), putP (childK p share) (delP (cidK id (p.forks + 1)) (updP (parentP p share) L))) else none
theorem forkK_call {B T M : Nat} {bl : ByteArray → Nat} {L L' : List PR} {id s : ByteArray} {share : Int} {w : World} (hk : forkK L id share = some (s, L')) (h : TabAt w B T M bl L) :
    Calls Tryd.prog 13 #[ptr T, .string id, .int .i64 share] w fun e w' => ∃ bl', e = .returned (.tuple #[.string s, .int .i64 0]) ∧ TabAt w' B T M bl' L' ∧ Bel B w w' := by
  unfold forkK at hk
  split at hk
  · cases hk
  · rename_i p hg
    split at hk
    · rename_i hc
      simp only [Bool.and_eq_true, decide_eq_true_eq, Bool.not_eq_true'] at hc
      obtain ⟨⟨⟨⟨⟨⟨h1, h2⟩, h3⟩, h4⟩, h5⟩, h6⟩, h7⟩ := hc
      have hF := fine_fineB h6
      have hf0 := hF.f0
      have hp := (get_mem hg).2
      have e : cidK id (p.forks + 1) = childId id (p.forks + 1) := (cidK_eq id (by omega) (by omega)).symm
      have e2 : childK p share = child p share := by unfold childK child; rw [hp, e]
      rw [e, e2] at hk
      cases hk
      exact fork_ok B T M bl L id share w p h hF hg h1 h2 h3 h4 h5 (by omega)
    · cases hk
/-- Exit that goes well. -/
def exitK (L : List PR) (id : ByteArray) (status : Int) : Option (List PR) := match get L id with
  | none => none
  | some p => if !p.exited && !decide (id = oneB) && decide (id.size < 1000) then some (moveP (childOf id) (updP (exitP p status) L)) else none
theorem exitK_call {B T M : Nat} {bl : ByteArray → Nat} {L L' : List PR} {id : ByteArray} {status : Int} {w : World} (hk : exitK L id status = some L') (h : TabAt w B T M bl L) :
    Calls Tryd.prog 16 #[ptr T, .string id, .int .i64 status] w fun e w' => e = .returned (.int .i64 0) ∧ TabAt w' B T M bl L' ∧ Bel B w w' := by
  unfold exitK at hk
  split at hk
  · cases hk
  · rename_i p hg
    split at hk
    · rename_i hc
      simp only [Bool.and_eq_true, decide_eq_true_eq, Bool.not_eq_true', decide_eq_false_iff_not] at hc
      obtain ⟨⟨h1, h2⟩, h3⟩ := hc
      cases hk
      exact exit_ok B T M bl L id status w p h (by unfold maxLen; omega) hg h1 h2
    · cases hk
/-- Wait by one that lives. -/
def waitK (L : List PR) (id : ByteArray) : Option (ByteArray × Int × Int × List PR) := match get L id with
  | none => none
  | some p => if !p.exited && L.all fineB && decide (L.length < 1000) then
      (match waitFind L id p with
      | some c => some (c.id, c.status, 0, delP c.id (updP (waitP p c) L))
      | none => some (⟨#[]⟩, 0, if L.any (childOf id) then 63 else 61, L)) else none
theorem waitK_call {B T M : Nat} {bl : ByteArray → Nat} {L L' : List PR} {id s : ByteArray} {st code : Int} {w : World} (hk : waitK L id = some (s, st, code, L')) (h : TabAt w B T M bl L) :
    Calls Tryd.prog 17 #[ptr T, .string id] w fun e w' => e = .returned (.tuple #[.string s, .int .i64 st, .int .i64 code]) ∧ TabAt w' B T M bl L' ∧ Bel B w w' := by
  unfold waitK at hk
  split at hk
  · cases hk
  · rename_i p hg
    split at hk
    · rename_i hc
      simp only [Bool.and_eq_true, decide_eq_true_eq, Bool.not_eq_true'] at hc
      obtain ⟨⟨h1, h2⟩, h3⟩ := hc
      refine (wait_live B T M bl L id w p h (fun q hq => fine_fineB (List.all_eq_true.1 h2 q hq)) hg h1 (by omega)).mono ?_
      rintro e w' ⟨⟨c, hc, rfl, ht⟩ | ⟨hc, rfl, ht⟩, hb⟩
      · rw [hc] at hk
        cases hk
        exact ⟨rfl, ht, hb⟩
      · rw [hc] at hk
        cases hk
        exact ⟨rfl, ht, hb⟩
    · cases hk
/-- Tag that goes well. -/
def tagK (L : List PR) (id : ByteArray) : Option (Int × List PR) := match get L id with
  | none => none
  | some p => if !p.exited && fineB p && tagOk p then some (tagN p, updP (tagP p) L) else none
theorem tagK_call {B T M : Nat} {bl : ByteArray → Nat} {L L' : List PR} {id : ByteArray} {n : Int} {w : World} (hk : tagK L id = some (n, L')) (h : TabAt w B T M bl L) :
    Calls Tryd.prog 11 #[ptr T, .string id] w fun e w' => e = .returned (.tuple #[.int .i64 n, .int .i64 0]) ∧ TabAt w' B T M bl L' ∧ Bel B w w' := by
  unfold tagK at hk
  split at hk
  · cases hk
  · rename_i p hg
    split at hk
    · rename_i hc
      simp only [Bool.and_eq_true, Bool.not_eq_true'] at hc
      obtain ⟨⟨h1, h2⟩, h3⟩ := hc
      cases hk
      exact tag_ok B T M bl L id w p h (fine_fineB h2) hg h1 h3
    · cases hk
end Go.Proofs.YtmphnoabkmoafaaDoor
