/- LabelAsks answers true for any two labels, any capabilities and any tags. -/
import Derived.Test.YtgkpdkdkpmkgdaaRows
import Derived.Test.YtgkpdkdkpmkgdaaOpenPair
import Derived.Test.YtgkpdkdkpmkgdaaAsks
import Derived.WalkKit
import Derived.ProofKit
import Derived.OpenShut
import Derived.ShutString
import Derived.SizedLaws
import Derived.ChangeOld
import Derived.Below
namespace Go.Proofs.Ytgkpdkdkpmkgdaa.labelAsks
open Go.ChangeShapes Go.WideShapes Go.ChangeAt Go.RowKit
set_option linter.unusedVariables false

theorem own : ownKnob Try.prog.godebug = none := by kernel_rfl
theorem laidOut : laidOutB Try.prog = true := by kernel_rfl

set_option maxRecDepth 100000 in
theorem lifted (os : Os) (started : os.Started) (H : Type) (enc : TypeId × Value → H) :
    ReturnsInHanded {} Try.checked os 7 .any (Rows.labelAsksSpec.pre6 enc Try.prog Try.f7 Rows.labelAsksRow.domain false) (Rows.labelAsksSpec.post enc Try.prog Try.f7 false true false false) := by
  refine returnsInHanded_of_change_sized (C := Try.checked) own started (by kernel_rfl) Try.func7
    (ChangeSpec.witness6 (enc := enc) (C := Try.checked) false ⟨#[], #[.agg #[.slice none 0 0, .slice none 0 0], .agg #[.slice none 0 0, .slice none 0 0], .agg #[.slice none 0 0, .slice none 0 0], .agg #[.slice none 0 0, .slice none 0 0], .slice none 0 0], []⟩ 8 (by kernel_rfl) (by kernel_rfl) (by kernel_rfl) (by kernel_rfl)) ?_
  intro W base args ds gs before hval0 hW hcnd hsz0 _
  have hval : ∀ (j : Nat) t v, Try.f7.params[j]? = some t → args[j]? = some v → Value.okWide Try.prog W .any base t v := hval0
  have hW' := hW
  obtain ⟨p, q, hA0, hV, rfl, hfz, hnd⟩ := hW
  have hA : DataW.TrodAll enc Try.prog W 0 (fun _ => true) true Try.f7.params.toList args.toList ds p := hA0
  rw [Try.params7] at hA hval
  have hsz : (DataW.weightsEach Try.prog (Try.f7.params.toList ++ Rows.labelAsksSpec.plain.varTypes Try.prog) (ds ++ gs)).all (· ≤ reachBytes) = true := hsz0
  rw [Try.params7] at hsz
  obtain ⟨v0, vs0, d0, ds0, p0, q0, hargs, rfl, rfl, h0, r0⟩ := trodAll_cons hA
  obtain ⟨v1, vs1, d1, ds1, p1, q1, rfl, rfl, rfl, h1, r1⟩ := trodAll_cons r0
  obtain ⟨v2, vs2, d2, ds2, p2, q2, rfl, rfl, rfl, h2, r2⟩ := trodAll_cons r1
  obtain ⟨v3, vs3, d3, ds3, p3, q3, rfl, rfl, rfl, h3, r3⟩ := trodAll_cons r2
  obtain ⟨v4, vs4, d4, ds4, p4, q4, rfl, rfl, rfl, h4, r4⟩ := trodAll_cons r3
  obtain ⟨rfl, rfl, rfl⟩ := trodAll_nil r4
  obtain rfl : args = #[v0, v1, v2, v3, v4] := by cases args; simp_all
  obtain ⟨rfl, rfl⟩ := trodVars_none hV
  have k0 := h0
  have lt0 : ∀ x ∈ p0, x.block < W.heap.size := by obtain ⟨m, hm⟩ := k0; exact DataW.trod_lt m _ _ _ hm
  have k1 := h1
  have lt1 : ∀ x ∈ p1, x.block < W.heap.size := by obtain ⟨m, hm⟩ := k1; exact DataW.trod_lt m _ _ _ hm
  have k2 := h2
  have lt2 : ∀ x ∈ p2, x.block < W.heap.size := by obtain ⟨m, hm⟩ := k2; exact DataW.trod_lt m _ _ _ hm
  have k3 := h3
  have lt3 : ∀ x ∈ p3, x.block < W.heap.size := by obtain ⟨m, hm⟩ := k3; exact DataW.trod_lt m _ _ _ hm
  have k4 := h4
  have lt4 : ∀ x ∈ p4, x.block < W.heap.size := by obtain ⟨m, hm⟩ := k4; exact DataW.trod_lt m _ _ _ hm
  obtain ⟨x0, y0, lx0, ly0, rfl, ix0, sx0, iy0, sy0⟩ := pair_open Try.underlying26 rfl rfl (by kernel_rfl) cells26 (hval 0 26 v0 rfl rfl) h0 (sized_at hsz (j := 0) rfl rfl)
  obtain ⟨x1, y1, lx1, ly1, rfl, ix1, sx1, iy1, sy1⟩ := pair_open Try.underlying26 rfl rfl (by kernel_rfl) cells26 (hval 1 26 v1 rfl rfl) h1 (sized_at hsz (j := 1) rfl rfl)
  obtain ⟨x2, y2, lx2, ly2, rfl, ix2, sx2, iy2, sy2⟩ := pair_open Try.underlying37 rfl rfl (by kernel_rfl) cells37 (hval 2 37 v2 rfl rfl) h2 (sized_at hsz (j := 2) rfl rfl)
  obtain ⟨x3, y3, lx3, ly3, rfl, ix3, sx3, iy3, sy3⟩ := pair_open Try.underlying37 rfl rfl (by kernel_rfl) cells37 (hval 3 37 v3 rfl rfl) h3 (sized_at hsz (j := 3) rfl rfl)
  obtain ⟨l4, i4, s4⟩ := ints_open h4 (by obtain ⟨a, l, c, h⟩ := okWide_slice Try.underlying22 (hval 4 22 v4 rfl rfl); exact ⟨a, l, c, h⟩) (sized_at hsz (j := 4) rfl rfl)
  clear hA0 hval0
  refine (asks_any _ _ _ _ _ _ _ _ _ lx0 ly0 lx1 ly1 lx2 ly2 lx3 ly3 l4 W ix0 iy0 ix1 iy1 ix2 iy2 ix3 iy3 i4 sx0 sy0 sx1 sy1 sx2 sy2 sx3 sy3 s4).mono fun e W' ⟨he, bel⟩ => ?_
  subst he
  exact ⟨_, rfl, _, _, _, [], _, [], hW', trodAll_mk1 (shut_bool Try.underlying4 _), (trodAll_cons_mk (Below.trod laidOut (by kernel_rfl) (of_decide_eq_true (by kernel_rfl)) k0 bel lt0) (trodAll_cons_mk (Below.trod laidOut (by kernel_rfl) (of_decide_eq_true (by kernel_rfl)) k1 bel lt1) (trodAll_cons_mk (Below.trod laidOut (by kernel_rfl) (of_decide_eq_true (by kernel_rfl)) k2 bel lt2) (trodAll_cons_mk (Below.trod laidOut (by kernel_rfl) (of_decide_eq_true (by kernel_rfl)) k3 bel lt3) (trodAll_cons_mk (Below.trod laidOut (by kernel_rfl) (of_decide_eq_true (by kernel_rfl)) k4 bel lt4) trodAll_mk0))))), rfl, bel.frame _, fun h => by cases h⟩

theorem over : Rows.labelAsksRow.holds Try.pinned (OpenSpec.ofChange Rows.labelAsksSpec) :=
  OpenClaim.holds_of_wide 7 Try.f7 rfl rfl rfl rfl rfl rfl rfl ⟨rfl, rfl, rfl, rfl, rfl⟩ rfl rfl rfl rfl rfl (by kernel_rfl) Try.func7 (by kernel_rfl)
    (of_decide_eq_true (by kernel_rfl)) (by unfold Func.isWrapper; first | (rw [if_pos (by decide +kernel)]; kernel_rfl) | (rw [if_neg (by decide +kernel)]; exact ⟨rfl, rfl⟩))
    (fun os started H enc _ => lifted os started H enc)

theorem proved : Rows.LabelAsksSaid := over
#print axioms proved
end Go.Proofs.Ytgkpdkdkpmkgdaa.labelAsks
