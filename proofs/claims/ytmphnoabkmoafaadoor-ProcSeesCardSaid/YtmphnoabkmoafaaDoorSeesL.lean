/- ProcSees in plain words: the table's states, what a good name is. -/
import Derived.Test.YtmphnoabkmoafaaDoorPending
import Derived.Test.YtmphnoabkmoafaaDoorRiseL
import Derived.Test.YtmphnoabkmoafaaDoorGrant
import Derived.Test.YtmphnoabkmoafaaDoorLaidT
namespace Go.Proofs.YtmphnoabkmoafaaDoor
open Go.RowKit Go.Maps
set_option linter.unusedVariables false
def b12 : ByteArray := ⟨#[49, 46, 50]⟩
def b19 : ByteArray := ⟨#[49, 46, 57]⟩
def b999 : ByteArray := ⟨#[57, 46, 57, 46, 57]⟩
def zP1 : PR := ⟨oneB, ⟨#[]⟩, [], [], [11], [11], 14, 0, false, 2, 1, 0, 0⟩
def zA (e : Bool) (n : Nat) : PR := ⟨b11, oneB, [11], [], [11], [11], 2, if e then 4 else 0, e, 0, 0, 0, (n : Int)⟩
def zB : PR := ⟨b12, oneB, [], [], [11], [11], 2, 3, true, 0, 0, 0, 0⟩
def zL (e : Bool) (n : Nat) : List PR := [zP1, zA e n, zB]
def zT : List PR := match tagK1 [firstP 20] oneB 11 with | some L => L | none => []
theorem zT_eq : tagK1 [firstP 20] oneB 11 = some zT := by kernel_rfl
def zF1 : List PR := match forkK zT oneB 2 with | some (_, L) => L | none => []
theorem zF1_eq : forkK zT oneB 2 = some (b11, zF1) := by kernel_rfl
def zF2 : List PR := match forkK zF1 oneB 2 with | some (_, L) => L | none => []
theorem zF2_eq : forkK zF1 oneB 2 = some (b12, zF2) := by kernel_rfl
def zC : List PR := match changeK zF2 b11 [11] [] with | some L => L | none => []
theorem zC_eq : changeK zF2 b11 [11] [] = some zC := by kernel_rfl
theorem zE_eq : exitK zC b12 3 = some (zL false 0) := by kernel_rfl
theorem zE2_eq : exitK (zL false 0) b11 4 = some (zL true 0) := by kernel_rfl
theorem zget1 (e : Bool) (n : Nat) : get (zL e n) oneB = some zP1 := by kernel_rfl
theorem zgetA (e : Bool) (n : Nat) : get (zL e n) b11 = some (zA e n) := by
  unfold get zL
  rw [List.find?_cons, show decide (zP1.id = b11) = false by kernel_rfl, List.find?_cons, show decide ((zA e n).id = b11) = true from by simp [zA]]
theorem zgetB (e : Bool) (n : Nat) : get (zL e n) b12 = some zB := by
  unfold get zL
  rw [List.find?_cons, show decide (zP1.id = b12) = false by kernel_rfl, List.find?_cons, show decide ((zA e n).id = b12) = false from by show decide (b11 = b12) = false; kernel_rfl, List.find?_cons, show decide (zB.id = b12) = true by kernel_rfl]
theorem zget_no (e : Bool) (n : Nat) (x : ByteArray) (h1 : x ≠ oneB) (h2 : x ≠ b11) (h3 : x ≠ b12) : get (zL e n) x = none := by
  unfold get zL
  rw [List.find?_eq_none]
  intro q hq
  simp only [List.mem_cons, List.not_mem_nil, or_false] at hq
  rcases hq with rfl | rfl | rfl
  · rw [decide_eq_true_eq]; exact fun h => h1 h.symm
  · rw [decide_eq_true_eq]; exact fun h => h2 h.symm
  · rw [decide_eq_true_eq]; exact fun h => h3 h.symm
theorem zupd (e : Bool) (n n' : Nat) : updP (zA e n') (zL e n) = zL e n' := by
  unfold updP zL
  rw [List.map_cons, List.map_cons, List.map_cons, List.map_nil, if_neg (show ¬ zP1.id = (zA e n').id from by show ¬ oneB = b11; decide), if_pos (show (zA e n).id = (zA e n').id from rfl), if_neg (show ¬ zB.id = (zA e n').id from by show ¬ b12 = b11; decide)]
theorem zFine1 : Fine zP1 := fine_fineB (by kernel_rfl)
theorem zFineA (e : Bool) (n : Nat) : Fine (zA e n) := fine_of _ (by simp only [zA]; exact ⟨by decide, by decide, by decide, by decide, by decide, by decide, by decide, by decide, by decide, by decide, by decide⟩) b11_chars
theorem norm_dup (n : Int) : normL [n, n] = [n] := normL_eq [n, n] [n] (by simp) (fun x => by simp)
theorem zok1 : joinOk [11] [11] = true := by
  unfold joinOk
  rw [show ([11] : List Int) ++ [11] = [11, 11] from rfl, norm_dup]
  rfl
theorem zok2 : joinOk [11] [] = true := by
  unfold joinOk
  rw [List.append_nil, norm11]
  rfl
theorem zjoin1 : joinL [11] [11] = [11] := by
  unfold joinL normV
  rw [show ([11] : List Int) ++ [11] = [11, 11] from rfl, norm_dup]
  rfl
theorem zjoin2 : joinL [11] [] = [11] := by
  unfold joinL normV
  rw [List.append_nil, norm11]
  rfl
theorem zmore (e : Bool) (n : Nat) : moreP (zA e n) [11] [] = zA e n := by
  unfold moreP
  show { zA e n with Plus := joinL [11] [11], Minus := joinL [11] [] } = _
  rw [zjoin1, zjoin2]
  rfl
/-- A name that may be, as the law tells it. -/
def goodTo (s : ByteArray) : Nat → Bool
  | 0 => true
  | k + 1 => goodTo s k && (if h : k < s.size then (if k % 2 = 0 then decide (49 ≤ (s[k]'h).toNat) && decide ((s[k]'h).toNat ≤ 57) else decide ((s[k]'h).toNat = 46)) else false)
theorem stV_good (s : ByteArray) : ∀ k, k ≤ s.size → stV s k = if goodTo s k then some (decide (k % 2 = 0)) else none
  | 0, _ => by simp [stV, goodTo]
  | k + 1, hk => by
    have ih := stV_good s k (by omega)
    have hlt : k < s.size := by omega
    unfold stV goodTo
    rw [ih]
    by_cases hg : goodTo s k = true
    · rw [hg]
      simp only [if_true, Bool.true_and, dif_pos hlt]
      generalize (s[k]'hlt).toNat = c
      by_cases h2 : k % 2 = 0
      · have h3 : ¬ (k + 1) % 2 = 0 := by omega
        simp only [h2, decide_true, h3, decide_false, if_true]
        by_cases hc : 49 ≤ c ∧ c ≤ 57
        · have : ¬ c = 46 := by omega
          simp [hc]
        · simp [hc]
      · have h3 : (k + 1) % 2 = 0 := by omega
        simp only [h2, decide_false, h3, decide_true, if_false]
        by_cases hc : c = 46
        · simp [hc]
        · simp [hc]
    · have : goodTo s k = false := by simpa using hg
      rw [this]
      simp
theorem valid_good (s : ByteArray) : validB s = (goodTo s s.size && decide (s.size % 2 = 1) && decide (s.size ≤ 15)) := by
  unfold validB
  rw [stV_good s s.size (Nat.le_refl _)]
  cases hg : goodTo s s.size
  · simp
  · simp only [if_true, Bool.true_and]
    by_cases h1 : s.size % 2 = 0
    · have : ¬ s.size % 2 = 1 := by omega
      simp [h1]
    · have h2 : s.size % 2 = 1 := by omega
      simp only [h2, Nat.one_ne_zero, decide_false, decide_true, Bool.not_false, Bool.true_and, decide_eq_decide]
      omega
set_option maxRecDepth 100000 in
/-- Pending of one that does not live. -/
theorem pending_no (B T M : Nat) (bl : ByteArray → Nat) (L : List PR) (id : ByteArray) (w : World) (h : TabAt w B T M bl L) (hid : id.size ≤ maxLen) (hc : ofCode L id ≠ 0) :
    Calls Tryd.prog 21 #[ptr T, .string id] w fun e w' => e = .returned (.tuple #[.int .i64 0, .bool false]) ∧ w' = w := by
  have ho := of_any B T M bl L id w h hid
  rcases of_cases bl L id with ⟨p, hg, hx, e1, e2⟩ | ⟨e1, e2, e3⟩
  · exact absurd e2 hc
  · rw [e1] at ho
    generalize ofCode L id = c at *
    unfold ptr at *
    go_enter Tryd.func21, Tryd.ntmps21
    go_wp2_with (go_at_call 25; refine ho.mono ?_; rintro e w1 ⟨rfl, rfl⟩)
    go_ret2
    exact ⟨rfl, rfl⟩
end Go.Proofs.YtmphnoabkmoafaaDoor
