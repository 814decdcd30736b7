/- A slice of Op that came in. PassPlays answers true for any bounds and any script. -/
import Derived.Test.YtkgbldkjpohinaaGreatDoorMMet
import Derived.Test.YtkgbldkjpohinaaGreatDoorMPlays
import Derived.ChangeArms
import Derived.DataReads
import Derived.Deep.Grids
import Derived.ChangeMaps5
import Derived.SizedLaws
namespace Go.Proofs.YtkgbldkjpohinaaGreatDoor
open Go.ChangeShapes Go.WideShapes Go.ChangeAt Go.RowKit Go.Deep
set_option linter.unusedVariables false
theorem spot_none {w : World} {x : Addr} {u : Value} (h1 : w.cell? (x.add 0) = some u) : ∃ b off, x = ⟨b, off, none⟩ ∧ b < w.heap.size := by
  obtain ⟨b, off, spot⟩ := x
  have hs : spot = none ∧ b < w.heap.size := by
    simp only [Addr.add, if_pos] at h1
    unfold World.cell? at h1
    split at h1
    · rename_i heq
      have := (Array.getElem?_eq_some_iff.1 heq).1
      cases spot
      · exact ⟨rfl, this⟩
      · simp at h1
    · cases h1
  obtain ⟨rfl, hb⟩ := hs
  exact ⟨b, off, rfl, hb⟩
theorem add_none (b off i : Nat) : (⟨b, off, none⟩ : Addr).add i = ⟨b, off + i, none⟩ := by
  unfold Addr.add
  split
  · simp
  · rfl
section
variable {H : Type} {enc : TypeId × Value → H} {w : World}
theorem op_trod {n : Nat} {cs : List Value} {x : DataW H × List MemPlace} (h : DataW.trod enc Tryz.prog w 0 (fun _ => true) true n 32 cs = some x) : ∃ o : OpV, cs = o.cells ∧ OpOk o := by
  obtain ⟨xs, m, _, _, hl, hlen, hf⟩ := DataW.trod_struct Tryz.underlying32 h
  have c32 : Tryz.prog.cellsOf 32 = 7 := by kernel_rfl
  have c3 : Tryz.prog.cellsOf 3 = 1 := by kernel_rfl
  have c9 : Tryz.prog.cellsOf 9 = 1 := by kernel_rfl
  rw [c32] at hl
  obtain ⟨k0, k1, k2, k3, k4, k5, k6, rfl⟩ : ∃ k0 k1 k2 k3 k4 k5 k6, cs = [k0, k1, k2, k3, k4, k5, k6] := by
    rcases cs with _ | ⟨k0, _ | ⟨k1, _ | ⟨k2, _ | ⟨k3, _ | ⟨k4, _ | ⟨k5, _ | ⟨k6, _ | ⟨k7, r⟩⟩⟩⟩⟩⟩⟩⟩
    all_goals first | (exact ⟨_, _, _, _, _, _, _, rfl⟩) | (simp at hl; done) | (simp at hl; omega)
  have hx : xs.length = 7 := hlen
  have h0 : DataW.trod enc Tryz.prog w 0 (fun _ => true) true m 3 (([k0, k1, k2, k3, k4, k5, k6].drop 0).take (Tryz.prog.cellsOf 3)) = xs[0]? := hf 0 _ rfl
  have h1 : DataW.trod enc Tryz.prog w 0 (fun _ => true) true m 3 (([k0, k1, k2, k3, k4, k5, k6].drop 1).take (Tryz.prog.cellsOf 3)) = xs[1]? := hf 1 _ rfl
  have h2 : DataW.trod enc Tryz.prog w 0 (fun _ => true) true m 3 (([k0, k1, k2, k3, k4, k5, k6].drop 2).take (Tryz.prog.cellsOf 3)) = xs[2]? := hf 2 _ rfl
  have h3 : DataW.trod enc Tryz.prog w 0 (fun _ => true) true m 9 (([k0, k1, k2, k3, k4, k5, k6].drop 3).take (Tryz.prog.cellsOf 9)) = xs[3]? := hf 3 _ rfl
  have h4 : DataW.trod enc Tryz.prog w 0 (fun _ => true) true m 9 (([k0, k1, k2, k3, k4, k5, k6].drop 4).take (Tryz.prog.cellsOf 9)) = xs[4]? := hf 4 _ rfl
  have h5 : DataW.trod enc Tryz.prog w 0 (fun _ => true) true m 9 (([k0, k1, k2, k3, k4, k5, k6].drop 5).take (Tryz.prog.cellsOf 9)) = xs[5]? := hf 5 _ rfl
  have h6 : DataW.trod enc Tryz.prog w 0 (fun _ => true) true m 9 (([k0, k1, k2, k3, k4, k5, k6].drop 6).take (Tryz.prog.cellsOf 9)) = xs[6]? := hf 6 _ rfl
  rw [c3, List.getElem?_eq_getElem (by omega)] at h0 h1 h2
  rw [c9, List.getElem?_eq_getElem (by omega)] at h3 h4 h5 h6
  obtain ⟨a0, e0, _⟩ := DataW.trod_int Tryz.underlying3 h0
  obtain ⟨a1, e1, wf1⟩ := DataW.trod_int Tryz.underlying3 h1
  obtain ⟨a2, e2, _⟩ := DataW.trod_int Tryz.underlying3 h2
  obtain ⟨s3, e3, _, l3⟩ := DataW.trod_string Tryz.underlying9 h3
  obtain ⟨s4, e4, _, l4⟩ := DataW.trod_string Tryz.underlying9 h4
  obtain ⟨s5, e5, _, l5⟩ := DataW.trod_string Tryz.underlying9 h5
  obtain ⟨s6, e6, _, l6⟩ := DataW.trod_string Tryz.underlying9 h6
  simp at e0 e1 e2 e3 e4 e5 e6
  refine ⟨⟨a0, a1, a2, s3, s4, s5, s6⟩, ?_, l3, l4, ?_⟩
  · unfold OpV.cells
    rw [e0, e1, e2, e3, e4, e5, e6]
  · have h := wf1.2
    show a1 ≤ 9223372036854775807
    simp [Lit.wf] at h
    omega
theorem ops_open {v : Value} {d : DataW H} {p : List MemPlace} (h : DataW.Trod enc Tryz.prog w 0 (fun _ => true) true 22 v d p) (hv : ∃ a l c, v = .slice a l c) : ∃ m F, OpsIn w v m F := by
  obtain ⟨n, hn⟩ := h
  obtain ⟨a, l, c, rfl⟩ := hv
  have c51 : Tryz.prog.cellsOf 32 = 7 := by kernel_rfl
  rcases DataW.trod_slice Tryz.underlying22 hn with ⟨hcs, _⟩ | ⟨x, len, cap, elems, rest, k, _, hcs, _, _, hl, hm, hlen, hel, _, _⟩
  · have e : Value.slice a l c = .slice none 0 0 := by simpa [Value.cells] using hcs
    exact ⟨0, fun _ => default, none, 0, e, Nat.zero_le _, fun i hi => by omega⟩
  · have e : Value.slice a l c = .slice (some x) len cap := by simpa [Value.cells] using hcs
    have key : ∀ i, i < len → ∃ o : OpV, OpOk o ∧ ∀ j, j < 7 → w.cell? ((x.add (i * 7)).add j) = o.cells[j]? := fun i hi => by
      have h1 := hel i hi
      rw [c51, List.getElem?_eq_getElem (by omega)] at h1
      obtain ⟨cs, h2, h3⟩ := Option.bind_eq_some_iff.1 h1
      obtain ⟨o, ho, hok⟩ := op_trod h3
      obtain ⟨_, hlen8, hc⟩ := World.cells?_some h2
      refine ⟨o, hok, fun j hj => ?_⟩
      rw [← ho]
      exact hc j hj
    have hex : ∃ F : Nat → OpV, ∀ i, i < len → OpOk (F i) ∧ ∀ j, j < 7 → w.cell? ((x.add (i * 7)).add j) = (F i).cells[j]? := by
      obtain ⟨F, hF⟩ := choose_lt (α := OpV) (n := len) (p := fun i o => OpOk o ∧ ∀ j, j < 7 → w.cell? ((x.add (i * 7)).add j) = o.cells[j]?) key
      exact ⟨F, hF⟩
    obtain ⟨F, hF⟩ := hex
    refine ⟨len, F, some x, cap, e, by omega, fun i hi => ⟨(hF i hi).1, ?_⟩⟩
    have h00 := (hF 0 (by omega)).2 0 (by omega)
    rw [Nat.zero_mul] at h00
    have hx0 : x.add 0 = x := by unfold Addr.add; simp
    rw [hx0] at h00
    obtain ⟨b, off, rfl, hb⟩ := spot_none (show w.cell? (x.add 0) = some (Value.int .i64 (F 0).kind) from by rw [h00]; rfl)
    refine ⟨b, off, rfl, hb, fun j hj => ?_⟩
    have := (hF i hi).2 j hj
    rw [add_none, add_none, Nat.add_assoc] at this
    exact this
end
end Go.Proofs.YtkgbldkjpohinaaGreatDoor
namespace Go.Proofs.YtkgbldkjpohinaaGreatDoor.passPlays
open Go.ChangeShapes Go.WideShapes Go.ChangeAt Go.RowKit Go.ChangeMaps
set_option linter.unusedVariables false

set_option maxRecDepth 100000 in
theorem lifted (os : Os) (started : os.Started) (H : Type) (enc : TypeId × Value → H) :
    ReturnsInHanded {} Tryz.checked os 3 .any (fun w args => (Rows.passPlaysSpec.pre enc Tryz.prog Tryz.f3 [] false w args ∧ laidMetH Tryz.prog lay5 w) ∧ sizedMet enc Tryz.prog Tryz.f3 (OpenSpec.ofChange Rows.passPlaysSpec) false w args)
      (Rows.passPlaysSpec.post enc Tryz.prog Tryz.f3 false true false false) := by
  refine returnsInHanded_of_change_and (C := Tryz.checked) (X := fun w _ => laidMetH Tryz.prog lay5 w) (fun _ _ _ hh h => h.of_heap hh) own started (by kernel_rfl) Tryz.func3
    (ChangeSpec.witness_shaped (enc := enc) (C := Tryz.checked) (os := os) (X := fun w _ => laidMetH Tryz.prog lay5 w) false (World.doorLaid Tryz.prog 400 os) #[.int .i64 0, .int .i64 0, .slice none 0 0] 8 rfl (World.shaped_of_RefB (by kernel_rfl) (by kernel_rfl)) (by kernel_rfl) (by kernel_rfl) (by kernel_rfl) (door_met5 os _)) ?_
  intro W base args ds gs before hval0 hW _ hsz0 hL _
  have hval : ∀ (j : Nat) t v, Tryz.f3.params[j]? = some t → args[j]? = some v → Value.okWide Tryz.prog W .any base t v := hval0
  have hW' := hW
  obtain ⟨p, q, hA0, hV, rfl, hfz, hnd⟩ := hW
  have hA : DataW.TrodAll enc Tryz.prog W 0 (fun _ => true) true Tryz.f3.params.toList args.toList ds p := hA0
  rw [Tryz.params3] at hA hval
  have hsz : (DataW.weightsEach Tryz.prog (Tryz.f3.params.toList ++ Rows.passPlaysSpec.plain.varTypes Tryz.prog) (ds ++ gs)).all (· ≤ reachBytes) = true := hsz0
  rw [Tryz.params3] at hsz
  obtain ⟨v0, vs0, d0, ds0, p0, q0, hargs, rfl, rfl, h0, r0⟩ := trodAll_cons hA
  obtain ⟨v1, vs1, d1, ds1, p1, q1, rfl, rfl, rfl, h1, r1⟩ := trodAll_cons r0
  obtain ⟨v2, vs2, d2, ds2, p2, q2, rfl, rfl, rfl, h2, r2⟩ := trodAll_cons r1
  obtain ⟨rfl, rfl, rfl⟩ := trodAll_nil r2
  obtain rfl : args = #[v0, v1, v2] := by cases args; simp_all
  obtain ⟨rfl, rfl⟩ := trodVars_none hV
  have k2 := h2
  have lt2 : ∀ x ∈ p2, x.block < W.heap.size := by obtain ⟨m, hm⟩ := k2; exact DataW.trod_lt m _ _ _ hm
  obtain ⟨a0, rfl, rfl, rfl, w0⟩ := open_int Tryz.underlying3 (hval 0 3 v0 rfl rfl) h0
  obtain ⟨a1, rfl, rfl, rfl, w1⟩ := open_int Tryz.underlying3 (hval 1 3 v1 rfl rfl) h1
  obtain ⟨m2, F2, i2⟩ := ops_open h2 (by obtain ⟨a, l, c, h⟩ := okWide_slice Tryz.underlying22 (hval 2 22 v2 rfl rfl); exact ⟨a, l, c, h⟩)
  clear hA0 hval0
  simp only [List.append_nil] at hW'
  refine (plays_all a0 a1 v2 m2 F2 W i2 (libv_of hL)).mono fun e W' ⟨he, bel⟩ => ?_
  subst he
  exact ⟨_, rfl, _, _, _, [], _, [], hW', trodAll_mk1 (shut_bool Tryz.underlying4 _), (trodAll_cons_mk (shut_int Tryz.underlying3 w0) (trodAll_cons_mk (shut_int Tryz.underlying3 w1) (trodAll_cons_mk (Below.trod laidOut (by kernel_rfl) (of_decide_eq_true (by kernel_rfl)) k2 bel lt2) trodAll_mk0))), rfl, bel.frame _, fun h => by cases h⟩

theorem over : Rows.passPlaysRow.holds Tryz.pinned (OpenSpec.ofChange Rows.passPlaysSpec) :=
  OpenClaim.holds_of_wide 3 Tryz.f3 rfl rfl rfl rfl rfl rfl rfl ⟨rfl, rfl, rfl, rfl, rfl⟩ rfl rfl rfl rfl rfl (by kernel_rfl) Tryz.func3 (by kernel_rfl)
    (of_decide_eq_true (by kernel_rfl)) (by unfold Func.isWrapper; first | (rw [if_pos (by decide +kernel)]; kernel_rfl) | (rw [if_neg (by decide +kernel)]; exact ⟨rfl, rfl⟩))
    (fun os started H enc _ => lifted os started H enc)

theorem card : Claim7.holds Tryz.pinned (.plain (OpenSpec.ofChange Rows.passPlaysSpec)) Rows.passPlaysCard :=
  Claim7.holds_tied_plain_at .later [] [.data, .data, .data, .sentinel, .sentinel] true (true, "6c75e554a40069ce9b95a837eaa9ddb25cd171576a680a8b6cd5a8d520bfd7d5") true
    over (fun _ h => by cases h) (by kernel_rfl) (fun _ h => by cases h) passPlays_row_tie rfl ⟨rfl, rfl⟩ (by kernel_rfl) rfl
    (fun f fn hf hfn => by
      obtain rfl : f = 3 := Option.some.inj ((show Tryz.prog.funcNamed "lazaret/lazaretlaw15.PassPlays" = some 3 by kernel_rfl).symm.trans hf) |>.symm
      obtain rfl : fn = Tryz.f3 := (Option.some.inj (Tryz.func3.symm.trans hfn)).symm
      exact ⟨by kernel_rfl, fun j t ht => by
        rw [Tryz.params3] at ht
        have h3 : t = 3 ∨ t = 22 := by
          rcases j with _ | _ | _ | j
          all_goals simp_all
        rcases h3 with rfl | rfl
        · exact (show Tryz.prog.wantsStandIn 3 = false by kernel_rfl)
        · exact (show Tryz.prog.wantsStandIn 22 = false by kernel_rfl)⟩)
    (by kernel_rfl)

theorem proved : Rows.PassPlaysCardSaid := card
#print axioms proved
end Go.Proofs.YtkgbldkjpohinaaGreatDoor.passPlays
