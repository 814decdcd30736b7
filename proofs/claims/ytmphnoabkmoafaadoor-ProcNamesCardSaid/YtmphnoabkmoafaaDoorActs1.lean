/- Mask, Pending. -/
import Derived.Test.YtmphnoabkmoafaaDoorTable2
namespace Go.Proofs.YtmphnoabkmoafaaDoor
open Go.RowKit Go.Maps
set_option linter.unusedVariables false
section
variable {L : List PR} {id : ByteArray} {bl : ByteArray → Nat}
/-- One that lives. -/
theorem of_live {p : PR} (h : get L id = some p) (hx : p.exited = false) : ofPtr bl L id = ptr (bl p.id) ∧ ofCode L id = 0 := by
  unfold ofPtr ofCode
  rw [h]
  simp [hx]
theorem of_cases (bl : ByteArray → Nat) (L : List PR) (id : ByteArray) : (∃ p, get L id = some p ∧ p.exited = false ∧ ofPtr bl L id = ptr (bl p.id) ∧ ofCode L id = 0) ∨ (ofPtr bl L id = .pointer none ∧ ofCode L id ≠ 0 ∧ (ofCode L id = 61 ∨ ofCode L id = 50)) := by
  cases hg : get L id with
  | none => right; unfold ofPtr ofCode; rw [hg]; simp
  | some p =>
    cases hx : p.exited
    · left; exact ⟨p, rfl, hx, of_live hg hx⟩
    · right; unfold ofPtr ofCode; rw [hg]; simp [hx]
end
def maskRes (L : List PR) (id : ByteArray) : Int := match get L id with | none => 0 | some p => if p.exited then 0 else p.mask
def maskT (L : List PR) (id : ByteArray) (m : Int) : List PR := match get L id with | none => L | some p => if p.exited then L else updP { p with mask := m } L
set_option maxRecDepth 100000 in
theorem mask_any (B T M : Nat) (bl : ByteArray → Nat) (L : List PR) (id : ByteArray) (m : Int) (w : World) (h : TabAt w B T M bl L) (hid : id.size ≤ maxLen) :
    Calls Tryd.prog 20 #[ptr T, .string id, .int .i64 m] w fun e w' => e = .returned (.tuple #[.int .i64 (maskRes L id), .int .i64 (ofCode L id)]) ∧ TabAt w' B T M bl (maskT L id m) ∧ Bel B w w' := by
  have ho := of_any B T M bl L id w h hid
  rcases of_cases bl L id with ⟨p, hg, hx, e1, e2⟩ | ⟨e1, e2, e3⟩
  · rw [e1, e2] at ho
    have er : maskRes L id = p.mask := by unfold maskRes; rw [hg]; simp [hx]
    have et : maskT L id m = updP { p with mask := m } L := by unfold maskT; rw [hg]; simp [hx]
    rw [e2, er, et]
    obtain ⟨a, b, c, d, hp⟩ := h.procs p (get_mem hg).1
    have c11 : w.cell? ⟨bl p.id, 11, none⟩ = some (.int .i64 p.mask) := hp.cell 11
    have f11 : w.frozen? ⟨bl p.id, 11, none⟩ = false := hp.frozen 11
    have hset := h.set (p' := { p with mask := m }) (get_mem hg).1 rfl 11 (.int .i64 m) (fun a b c d => rfl) rfl rfl rfl rfl
    have hlow := h.lowP p (get_mem hg).1
    have hrow66 := hp.row
    generalize bl p.id = g at *
    unfold ptr at *
    go_enter Tryd.func20, Tryd.ntmps20
    go_wp2_with (go_at_call 25; refine ho.mono ?_; rintro e w1 ⟨rfl, rfl⟩)
    go_ret2
    exact ⟨rfl, hset, (Bel.refl _ _).set66 hrow66 hlow _⟩
  · rw [e1] at ho
    have er : maskRes L id = 0 := by unfold maskRes; unfold ofCode at e3 e2; cases hg : get L id with | none => rfl | some p => (rw [hg] at e2; simp only at e2 ⊢; split <;> simp_all)
    have et : maskT L id m = L := by unfold maskT; unfold ofCode at e3 e2; cases hg : get L id with | none => rfl | some p => (rw [hg] at e2; simp only at e2 ⊢; split <;> simp_all)
    rw [er, et]
    generalize ofCode L id = c at *
    unfold ptr at *
    go_enter Tryd.func20, Tryd.ntmps20
    go_wp2_with (go_at_call 25; refine ho.mono ?_; rintro e w1 ⟨rfl, rfl⟩)
    go_ret2
    exact ⟨rfl, h, Bel.refl _ _⟩
end Go.Proofs.YtmphnoabkmoafaaDoor
