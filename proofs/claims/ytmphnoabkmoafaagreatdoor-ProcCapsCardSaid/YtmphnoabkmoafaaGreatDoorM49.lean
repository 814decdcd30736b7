/- A slice of whole numbers that came in; the table of bits.TrailingZeros, out of what the row lays. ProcCaps answers true for any script. -/
import Derived.Test.YtmphnoabkmoafaaGreatDoorM47
import Derived.Test.YtmphnoabkmoafaaGreatDoorM29
import Derived.ChangeSlices
import Derived.MakeChecks
import Derived.Test.YtmphnoabkmoafaaGreatDoorM0
import Derived.Test.YtmphnoabkmoafaaGreatDoorM48
import Derived.ChangeMaps5
import Derived.SizedLaws
namespace Go.Proofs.YtmphnoabkmoafaaGreatDoor
open Go.ChangeShapes Go.WideShapes Go.ChangeAt Go.RowKit Go.Deep
set_option linter.unusedVariables false
def IntsIn (w : World) (v : Value) (m : Nat) (F : Nat → Int) : Prop := ∃ ao cap, v = .slice ao m cap ∧ m ≤ maxLen ∧ ∀ i, i < m → ∃ b off, ao = some ⟨b, off, none⟩ ∧ b < w.heap.size ∧ w.cell? ⟨b, off + i, none⟩ = some (.int .i64 (F i))
theorem ints_open {H : Type} {enc : TypeId × Value → H} {w : World} {v : Value} {d : DataW H} {p : List MemPlace} (h : DataW.Trod enc Tryz.prog w 0 (fun _ => true) true 30 v d p) (hv : ∃ a l c, v = .slice a l c) : ∃ m F, IntsIn w v m F := by
  obtain ⟨n, hn⟩ := h
  obtain ⟨a, l, c, rfl⟩ := hv
  rcases open_ints Tryz.underlying30 Tryz.underlying3 (by kernel_rfl) hn with ⟨hcs, _⟩ | ⟨x, len, cap, zs, hcs, _, hl, hm, hz, _, hcell, _⟩
  · have e : Value.slice a l c = .slice none 0 0 := by simpa [Value.cells] using hcs
    exact ⟨0, fun _ => 0, none, 0, e, Nat.zero_le _, fun i hi => by omega⟩
  · have e : Value.slice a l c = .slice (some x) len cap := by simpa [Value.cells] using hcs
    have hz' : zs.length = cap := by simpa using hz
    refine ⟨len, fun i => zs.getD i 0, some x, cap, e, by omega, fun i hi => ?_⟩
    obtain ⟨b, off, rfl, hb⟩ := spot_none (hcell 0 (by omega))
    exact ⟨b, off, rfl, hb, by rw [← add_none]; exact hcell i (by omega)⟩
theorem g64 : Tryz.prog.globalNamed "math/bits.deBruijn64tab" = some 1 := by kernel_rfl
theorem tg64 : (Tryz.prog.globals[1]?).map (·.type) = some 147 := by kernel_rfl
theorem c5 : Tryz.prog.cellsOf 5 = 1 := by kernel_rfl
theorem tab_lits : (Rows.laid_math_bits_deBruijn64tab : DataW Unit) = .agg (Lib.deBruijn64tab.map fun (n : Nat) => .lit (.int .u8 (n : Int))) := by kernel_rfl
theorem tab_of_laid {W : World} (h : laidMetH Tryz.prog lay3 W) : _root_.Go.Proofs.TabAt 1 Lib.deBruijn64tab W ∧ 1 < W.heap.size := by
  rw [MakeChecks.laidMetH_plain _ _ _ (by kernel_rfl)] at h
  obtain ⟨ps, ⟨g0, t0, cs0, f0, p0, q0, hg0, ht0, hv0, hd0, ⟨g1, t1, cs1, f1, p1, q1, hg1, ht1, hv1, hd1, _, _⟩, _⟩, _, _⟩ := h
  obtain rfl := Option.some.inj (g64.symm.trans hg1)
  obtain rfl := Option.some.inj (tg64.symm.trans ht1)
  obtain ⟨xs, m1, rfl, hx1, hlen, hn, hel⟩ := DataW.trod_array Tryz.underlying147 hd1
  rw [tab_lits] at hx1
  simp only [Prod.mk.injEq, DataW.agg.injEq] at hx1
  have hl : xs.map (·.1) = Lib.deBruijn64tab.map fun (n : Nat) => DataW.lit (.int .u8 (n : Int)) := hx1.1.symm
  have key : ∀ j, j < Lib.deBruijn64tab.length → W.cell? ⟨1, j, none⟩ = some (.int .u8 (Lib.deBruijn64tab.getD j 0)) := fun j hj => by
    have h64 : Lib.deBruijn64tab.length = 64 := by decide
    have h1 := hel j (by omega)
    rw [c5, Nat.mul_one] at h1
    rw [List.getElem?_eq_getElem (by omega)] at h1
    obtain ⟨k, e1, e2, _⟩ := DataW.trod_int Tryz.underlying5 h1
    have e3 : (xs.map (·.1))[j]? = (Lib.deBruijn64tab.map fun (n : Nat) => DataW.lit (H := Unit) (.int .u8 (n : Int)))[j]? := by rw [hl]
    rw [List.getElem?_map, List.getElem?_map, List.getElem?_eq_getElem (by omega), List.getElem?_eq_getElem hj, e2] at e3
    simp only [Option.map_some, Option.some.injEq, DataW.lit.injEq, Lit.int.injEq, true_and] at e3
    have e4 : cs1.toList[j]? = some (.int .u8 k) := by
      have : ((cs1.toList.drop j).take 1)[0]? = some (Value.int .u8 k) := by rw [e1]; rfl
      simpa using this
    have := World.var?_cell hg1 hv1 j
    rw [this, ← Array.getElem?_toList, e4, e3]
    simp [List.getD, hj]
  exact ⟨key, World.block_lt_of_cell? W ⟨1, 0, none⟩ (key 0 (by decide))⟩
end Go.Proofs.YtmphnoabkmoafaaGreatDoor
namespace Go.Proofs.YtmphnoabkmoafaaGreatDoor.procCaps
open Go.ChangeShapes Go.WideShapes Go.ChangeAt Go.RowKit Go.ChangeMaps
set_option linter.unusedVariables false

theorem sized_at {H : Type} {ts : List TypeId} {ds : List (DataW H)} (h : (DataW.weightsEach Tryz.prog ts ds).all (· ≤ reachBytes) = true) {j : Nat} {t : TypeId} {d : DataW H} (ht : ts[j]? = some t) (hd : ds[j]? = some d) : ∀ k ∈ d.weights Tryz.prog t, k ≤ reachBytes := by
  intro k hk
  have := List.all_eq_true.1 h _ (DataW.weights_mem_each ht hd k hk)
  simpa using this
set_option maxRecDepth 100000 in
theorem lifted (os : Os) (started : os.Started) (H : Type) (enc : TypeId × Value → H) :
    ReturnsInHanded {} Tryz.checked os 5 .any (fun w args => (Rows.procCapsSpec.pre enc Tryz.prog Tryz.f5 [] false w args ∧ laidMetH Tryz.prog lay3 w) ∧ sizedMet enc Tryz.prog Tryz.f5 (OpenSpec.ofChange Rows.procCapsSpec) false w args)
      (Rows.procCapsSpec.post enc Tryz.prog Tryz.f5 false true false false) := by
  refine returnsInHanded_of_change_and (C := Tryz.checked) (X := fun w _ => laidMetH Tryz.prog lay3 w) (fun _ _ _ hh h => h.of_heap hh) own started (by kernel_rfl) Tryz.func5
    (ChangeSpec.witness_shaped (enc := enc) (C := Tryz.checked) (os := os) (X := fun w _ => laidMetH Tryz.prog lay3 w) false (World.doorLaid Tryz.prog 400 os) #[.slice none 0 0] 8 rfl (World.shaped_of_RefB (by kernel_rfl) (by kernel_rfl)) (by kernel_rfl) (by kernel_rfl) (by kernel_rfl) (door_met os _)) ?_
  intro W base args ds gs before hval0 hW _ hsz0 hL _
  have hval : ∀ (j : Nat) t v, Tryz.f5.params[j]? = some t → args[j]? = some v → Value.okWide Tryz.prog W .any base t v := hval0
  have hW' := hW
  obtain ⟨p, q, hA0, hV, rfl, hfz, hnd⟩ := hW
  have hA : DataW.TrodAll enc Tryz.prog W 0 (fun _ => true) true Tryz.f5.params.toList args.toList ds p := hA0
  rw [Tryz.params5] at hA hval
  have hsz : (DataW.weightsEach Tryz.prog (Tryz.f5.params.toList ++ Rows.procCapsSpec.plain.varTypes Tryz.prog) (ds ++ gs)).all (· ≤ reachBytes) = true := hsz0
  rw [Tryz.params5] at hsz
  obtain ⟨v0, vs0, d0, ds0, p0, q0, hargs, rfl, rfl, h0, r0⟩ := trodAll_cons hA
  obtain ⟨rfl, rfl, rfl⟩ := trodAll_nil r0
  obtain rfl : args = #[v0] := by cases args; simp_all
  obtain ⟨rfl, rfl⟩ := trodVars_none hV
  have k0 := h0
  have lt0 : ∀ x ∈ p0, x.block < W.heap.size := by obtain ⟨m, hm⟩ := k0; exact DataW.trod_lt m _ _ _ hm
  letI bs : Base () := ⟨W.heap.size⟩
  obtain ⟨m0, F0, i0⟩ := ops_open (Nat.le_refl _) h0 (by obtain ⟨a, l, c, h⟩ := okWide_slice Tryz.underlying22 (hval 0 22 v0 rfl rfl); exact ⟨a, l, c, h⟩) (sized_at (j := 0) hsz rfl rfl)
  clear hA0 hval0
  simp only [List.append_nil] at hW'
  refine (proccaps_any v0 m0 F0 W rfl i0 (tab_of_laid hL).1 (tab_of_laid hL).2).mono fun e W' ⟨he, bel⟩ => ?_
  subst he
  exact ⟨_, rfl, _, _, _, [], _, [], hW', trodAll_mk1 (shut_bool Tryz.underlying4 _), (trodAll_cons_mk (Below.trod laidOut (by kernel_rfl) (of_decide_eq_true (by kernel_rfl)) k0 bel lt0) trodAll_mk0), rfl, bel.frame _, fun h => by cases h⟩

theorem over : Rows.procCapsRow.holds Tryz.pinned (OpenSpec.ofChange Rows.procCapsSpec) :=
  OpenClaim.holds_of_wide 5 Tryz.f5 rfl rfl rfl rfl rfl rfl rfl ⟨rfl, rfl, rfl, rfl, rfl⟩ rfl rfl rfl rfl rfl (by kernel_rfl) Tryz.func5 (by kernel_rfl)
    (of_decide_eq_true (by kernel_rfl)) (by unfold Func.isWrapper; first | (rw [if_pos (by decide +kernel)]; kernel_rfl) | (rw [if_neg (by decide +kernel)]; exact ⟨rfl, rfl⟩))
    (fun os started H enc _ => lifted os started H enc)

theorem card : Claim7.holds Tryz.pinned (.plain (OpenSpec.ofChange Rows.procCapsSpec)) Rows.procCapsCard :=
  Claim7.holds_tied_plain_at .later [] [.data, .data, .data] true (true, "541739128c1420a3b42903df629c48beaffb4449e65323e40abca590a42ac22f") false
    over (fun _ h => by cases h) (by kernel_rfl) (fun _ h => by cases h) procCaps_row_tie rfl ⟨rfl, rfl⟩ (by kernel_rfl) rfl
    (fun f fn hf hfn => by
      obtain rfl : f = 5 := Option.some.inj ((show Tryz.prog.funcNamed "lazaret/lazaretlaw12.ProcCaps" = some 5 by kernel_rfl).symm.trans hf) |>.symm
      obtain rfl : fn = Tryz.f5 := (Option.some.inj (Tryz.func5.symm.trans hfn)).symm
      exact ⟨by kernel_rfl, fun j t ht => by
        rw [Tryz.params5] at ht
        have h3 : t = 22 := by
          rcases j with _ | j
          all_goals simp_all
        rcases h3 with rfl
        · exact (show Tryz.prog.wantsStandIn 22 = false by kernel_rfl)⟩)
    (by kernel_rfl)

theorem proved : Rows.ProcCapsCardSaid := card
#print axioms proved
end Go.Proofs.YtmphnoabkmoafaaGreatDoor.procCaps
