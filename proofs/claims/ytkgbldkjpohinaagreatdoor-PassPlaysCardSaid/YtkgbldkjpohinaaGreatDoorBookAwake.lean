/- The law's own awake (layer 15) answers true. -/
import Derived.Test.YtkgbldkjpohinaaGreatDoorBookSt
namespace Go.Proofs.YtkgbldkjpohinaaGreatDoor
open Go.RowKit Go.Maps
theorem lows_of {l : List UInt8} (h : ∀ x ∈ l, 97 ≤ x.toNat ∧ x.toNat ≤ 122) : Lows ⟨l.toArray⟩ := by
  intro i hi
  exact h (l.toArray[i]'hi) (by rw [List.getElem_toArray]; exact List.getElem_mem _)
theorem keyS (k : List UInt8) : WideAt.IsKeyLit (.string k) := trivial
theorem one_user (name salt text : ByteArray) (steps id : Int) : addCode (.map []) name = 0 ∧ addTo (.map []) name salt text steps id = (DataW.map [] : DataW Unit).put (.string name.data.toList) (entD salt steps (hashOf salt text steps) id) := by
  have h : addCode (.map []) name = 0 := rfl
  refine ⟨h, ?_⟩
  unfold addTo
  rw [if_pos h]
theorem has_one (k : List UInt8) (d : DataW Unit) : Maps.has ((DataW.map [] : DataW Unit).put (.string k) d) (.string k) = true := has_put_same isMap_empty (keyS k) d
theorem at_one (k : List UInt8) (d z : DataW Unit) : ((DataW.map [] : DataW Unit).put (.string k) d).atKey (.string k) z = d := atKey_put_same isMap_empty (keyS k) d z
theorem at_two (k : List UInt8) (c d z : DataW Unit) : (((DataW.map [] : DataW Unit).put (.string k) c).put (.string k) d).atKey (.string k) z = d := atKey_put_same (isMap_empty.put _ _) (keyS k) d z
theorem at_none (k : List UInt8) (z : DataW Unit) : (DataW.map [] : DataW Unit).atKey (.string k) z = z := rfl
theorem del_none (k : List UInt8) : (DataW.map [] : DataW Unit).del (.string k) = .map [] := rfl
theorem ann_low : Lows ⟨#[97, 110, 110]⟩ := lows_of (l := [97, 110, 110]) (by decide)
theorem s_low : Lows ⟨#[115]⟩ := lows_of (l := [115]) (by decide)
set_option maxRecDepth 100000 in
set_option maxHeartbeats 1000000 in
theorem awake15_any (w : World) : Calls Tryz.prog 6 #[] w fun e w' => e = .returned (.bool true) ∧ Below w.heap.size w w' := by
  have ml : (⟨#[97, 110, 110]⟩ : ByteArray).size ≤ maxLen := by unfold maxLen; decide
  go_enter Tryz.func6, Tryz.ntmps6
  go_wp2_with (first
    | (go_at_call 4; refine (st_new 2 10 _ (by omega) (by omega) (by omega) (by omega)).mono ?_; rintro e w1 ⟨b, mu, mf, rfl, h1⟩)
    | (go_at_call 7; refine (st_add ⟨#[97, 110, 110]⟩ ⟨#[115]⟩ ⟨#[120]⟩ 1 5 h1 (by omega) ann_low (by decide) (by decide) s_low (by decide) (by decide) (by decide) (by omega) (by omega) (by omega) (by omega)).mono ?_; rintro e w2 ⟨rfl, h2⟩; rw [(one_user _ _ _ _ _).2] at h2; rw [(one_user _ ⟨#[115]⟩ ⟨#[120]⟩ 1 5).1])
    | (go_at_call_of 9 (Value.int IntKind.i64 0); refine (st_right ⟨#[97, 110, 110]⟩ ⟨#[120]⟩ 0 _ _ _ _ _ _ h2 ml (by decide) (by omega) (has_one _ _) (at_one _ _ _) (at_none _ _) (by decide) rfl (by omega)).mono ?_; rintro e w3 ⟨rfl, h3⟩; rw [del_none] at h3)
    | (go_at_call_of 9 (Value.int IntKind.i64 1); first
      | (refine (st_wrong ⟨#[97, 110, 110]⟩ ⟨#[121]⟩ 1 _ _ _ _ _ _ h4 ml (by decide) (by omega) (has_one _ _) (at_one _ _ _) (at_one _ _ _) (by decide) xy_ne (by omega) (by omega) (by omega)).mono ?_; rintro e w5 ⟨rfl, h5⟩)
      | (refine (st_wrong ⟨#[97, 110, 110]⟩ ⟨#[121]⟩ 1 _ _ _ _ _ _ h3 ml (by decide) (by omega) (has_one _ _) (at_one _ _ _) (at_none _ _) (by decide) xy_ne (by omega) (by omega) (by omega)).mono ?_; rintro e w4 ⟨rfl, h4⟩))
    | (go_at_call_of 9 (Value.int IntKind.i64 3); refine (st_locked ⟨#[97, 110, 110]⟩ ⟨#[120]⟩ 3 _ _ _ _ _ _ h5 ml (by decide) (by omega) (at_one _ _ _) (at_two _ _ _ _) (by omega) (by omega) (by omega) (by omega)).mono ?_; rintro e w6 ⟨rfl, h6⟩)
    | (go_at_call_of 9 (Value.int IntKind.i64 11); refine (st_free ⟨#[97, 110, 110]⟩ ⟨#[120]⟩ 11 _ _ _ _ _ _ h6 ml (by decide) (by omega) (has_one _ _) (at_one _ _ _) (at_two _ _ _ _) (by decide) rfl (by omega) (by omega) (by omega) (by omega)).mono ?_; rintro e w7 ⟨rfl, h7⟩))
  go_ret
  exact ⟨rfl, h7.below⟩
end Go.Proofs.YtkgbldkjpohinaaGreatDoor
