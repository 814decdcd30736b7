/- A slice of Op that came in. -/
import Derived.Test.YtmphnoabkmoafaaDoorBools
import Derived.ChangeArms
import Derived.DataReads
namespace Go.Proofs.YtmphnoabkmoafaaDoor
open Go.ChangeShapes Go.WideShapes Go.ChangeAt Go.RowKit Go.Deep
set_option linter.unusedVariables false
/-- The cells of an Op. -/
structure OpV where
  kind : Int
  A : Int
  who : ByteArray
  to : ByteArray
  s : Value
  i : Value
  p : Value
  m : Value
instance : Inhabited OpV := ⟨⟨0, 0, ⟨#[]⟩, ⟨#[]⟩, .slice none 0 0, .slice none 0 0, .slice none 0 0, .slice none 0 0⟩⟩
def OpV.cells (o : OpV) : List Value := [.int .i64 o.kind, .int .i64 o.A, .string o.who, .string o.to, o.s, o.i, o.p, o.m]
def isSl (v : Value) : Prop := ∃ a l c, v = .slice a l c
structure OpOk (o : OpV) : Prop where
  who : o.who.size ≤ maxLen
  to : o.to.size ≤ maxLen
  s : isSl o.s
  i : isSl o.i
  p : isSl o.p
  m : isSl o.m
def OpsIn (w : World) (v : Value) (n : Nat) (F : Nat → OpV) : Prop := ∃ ao cap, v = .slice ao n cap ∧ n ≤ maxLen ∧ ∀ i, i < n → OpOk (F i) ∧ ∃ b off, ao = some ⟨b, off, none⟩ ∧ b < w.heap.size ∧ ∀ j, j < 8 → w.cell? ⟨b, off + (i * 8 + j), none⟩ = (F i).cells[j]?
section
variable {H : Type} {enc : TypeId × Value → H} {w : World}
theorem sl_trod {n : Nat} {cs : List Value} {x : DataW H × List MemPlace} (h : DataW.trod enc Tryd.prog w 0 (fun _ => true) true n 22 cs = some x) : ∃ v, cs = [v] ∧ isSl v := by
  rcases DataW.trod_slice Tryd.underlying22 h with ⟨e, _⟩ | ⟨a, len, cap, _, _, _, _, e, _⟩
  · exact ⟨_, e, none, 0, 0, rfl⟩
  · exact ⟨_, e, some a, len, cap, rfl⟩
theorem pair_trod {n t : Nat} {cs : List Value} {x : DataW H × List MemPlace} {f0 f1 : Field} (ht : Tryd.prog.underlying t = some (.struct #[f0, f1])) (e0 : f0.type = 22) (e1 : f1.type = 22) (o0 : f0.offset = 0) (o1 : f1.offset = 1) (hl : cs.length = 2) (h : DataW.trod enc Tryd.prog w 0 (fun _ => true) true n t cs = some x) :
    ∃ v u, cs = [v, u] ∧ isSl v ∧ isSl u := by
  obtain ⟨c0, c1, rfl⟩ : ∃ c0 c1, cs = [c0, c1] := by
    rcases cs with _ | ⟨c0, _ | ⟨c1, _ | ⟨c2, r⟩⟩⟩
    · simp at hl
    · simp at hl
    · exact ⟨c0, c1, rfl⟩
    · simp at hl
  obtain ⟨xs, m, _, _, _, hlen, hf⟩ := DataW.trod_struct ht h
  have hx : xs.length = 2 := hlen
  have h0 := hf 0 f0 rfl
  have h1 := hf 1 f1 rfl
  have c22 : Tryd.prog.cellsOf 22 = 1 := by kernel_rfl
  rw [e0, o0, c22, List.getElem?_eq_getElem (by omega)] at h0
  rw [e1, o1, c22, List.getElem?_eq_getElem (by omega)] at h1
  obtain ⟨v, hv, sv⟩ := sl_trod h0
  obtain ⟨u, hu, su⟩ := sl_trod h1
  simp at hv hu
  exact ⟨v, u, by rw [hv, hu], sv, su⟩
theorem op_trod {n : Nat} {cs : List Value} {x : DataW H × List MemPlace} (h : DataW.trod enc Tryd.prog w 0 (fun _ => true) true n 51 cs = some x) : ∃ o : OpV, cs = o.cells ∧ OpOk o := by
  obtain ⟨xs, m, _, _, hl, hlen, hf⟩ := DataW.trod_struct Tryd.underlying51 h
  have c51 : Tryd.prog.cellsOf 51 = 8 := by kernel_rfl
  have c3 : Tryd.prog.cellsOf 3 = 1 := by kernel_rfl
  have c9 : Tryd.prog.cellsOf 9 = 1 := by kernel_rfl
  have c41 : Tryd.prog.cellsOf 41 = 2 := by kernel_rfl
  have c43 : Tryd.prog.cellsOf 43 = 2 := by kernel_rfl
  rw [c51] at hl
  obtain ⟨k0, k1, k2, k3, k4, k5, k6, k7, rfl⟩ : ∃ k0 k1 k2 k3 k4 k5 k6 k7, cs = [k0, k1, k2, k3, k4, k5, k6, k7] := by
    rcases cs with _ | ⟨k0, _ | ⟨k1, _ | ⟨k2, _ | ⟨k3, _ | ⟨k4, _ | ⟨k5, _ | ⟨k6, _ | ⟨k7, _ | ⟨k8, r⟩⟩⟩⟩⟩⟩⟩⟩⟩
    all_goals first | (exact ⟨_, _, _, _, _, _, _, _, rfl⟩) | (simp at hl; done) | (simp at hl; omega)
  have hx : xs.length = 6 := hlen
  have h0 : DataW.trod enc Tryd.prog w 0 (fun _ => true) true m 3 (([k0, k1, k2, k3, k4, k5, k6, k7].drop 0).take (Tryd.prog.cellsOf 3)) = xs[0]? := hf 0 _ rfl
  have h1 : DataW.trod enc Tryd.prog w 0 (fun _ => true) true m 3 (([k0, k1, k2, k3, k4, k5, k6, k7].drop 1).take (Tryd.prog.cellsOf 3)) = xs[1]? := hf 1 _ rfl
  have h2 : DataW.trod enc Tryd.prog w 0 (fun _ => true) true m 9 (([k0, k1, k2, k3, k4, k5, k6, k7].drop 2).take (Tryd.prog.cellsOf 9)) = xs[2]? := hf 2 _ rfl
  have h3 : DataW.trod enc Tryd.prog w 0 (fun _ => true) true m 9 (([k0, k1, k2, k3, k4, k5, k6, k7].drop 3).take (Tryd.prog.cellsOf 9)) = xs[3]? := hf 3 _ rfl
  have h4 : DataW.trod enc Tryd.prog w 0 (fun _ => true) true m 41 (([k0, k1, k2, k3, k4, k5, k6, k7].drop 4).take (Tryd.prog.cellsOf 41)) = xs[4]? := hf 4 _ rfl
  have h5 : DataW.trod enc Tryd.prog w 0 (fun _ => true) true m 43 (([k0, k1, k2, k3, k4, k5, k6, k7].drop 6).take (Tryd.prog.cellsOf 43)) = xs[5]? := hf 5 _ rfl
  rw [c3, List.getElem?_eq_getElem (by omega)] at h0 h1
  rw [c9, List.getElem?_eq_getElem (by omega)] at h2 h3
  rw [c41, List.getElem?_eq_getElem (by omega)] at h4
  rw [c43, List.getElem?_eq_getElem (by omega)] at h5
  obtain ⟨a0, e0, _⟩ := DataW.trod_int Tryd.underlying3 h0
  obtain ⟨a1, e1, _⟩ := DataW.trod_int Tryd.underlying3 h1
  obtain ⟨s2, e2, _, l2⟩ := DataW.trod_string Tryd.underlying9 h2
  obtain ⟨s3, e3, _, l3⟩ := DataW.trod_string Tryd.underlying9 h3
  obtain ⟨v4, v5, e4, i4, i5⟩ := pair_trod Tryd.underlying41 rfl rfl rfl rfl (by simp) h4
  obtain ⟨v6, v7, e6, i6, i7⟩ := pair_trod Tryd.underlying43 rfl rfl rfl rfl (by simp) h5
  simp at e0 e1 e2 e3 e4 e6
  refine ⟨⟨a0, a1, s2, s3, v4, v5, v6, v7⟩, ?_, l2, l3, i4, i5, i6, i7⟩
  unfold OpV.cells
  rw [e0, e1, e2, e3, e4.1, e4.2, e6.1, e6.2]
theorem ops_open {v : Value} {d : DataW H} {p : List MemPlace} (h : DataW.Trod enc Tryd.prog w 0 (fun _ => true) true 49 v d p) (hv : ∃ a l c, v = .slice a l c) : ∃ m F, OpsIn w v m F := by
  obtain ⟨n, hn⟩ := h
  obtain ⟨a, l, c, rfl⟩ := hv
  have c51 : Tryd.prog.cellsOf 51 = 8 := by kernel_rfl
  rcases DataW.trod_slice Tryd.underlying49 hn with ⟨hcs, _⟩ | ⟨x, len, cap, elems, rest, k, _, hcs, _, _, hl, hm, hlen, hel, _, _⟩
  · have e : Value.slice a l c = .slice none 0 0 := by simpa [Value.cells] using hcs
    exact ⟨0, fun _ => ⟨0, 0, ⟨#[]⟩, ⟨#[]⟩, .slice none 0 0, .slice none 0 0, .slice none 0 0, .slice none 0 0⟩, none, 0, e, Nat.zero_le _, fun i hi => by omega⟩
  · have e : Value.slice a l c = .slice (some x) len cap := by simpa [Value.cells] using hcs
    have key : ∀ i, i < len → ∃ o : OpV, OpOk o ∧ ∀ j, j < 8 → w.cell? ((x.add (i * 8)).add j) = o.cells[j]? := fun i hi => by
      have h1 := hel i hi
      rw [c51, List.getElem?_eq_getElem (by omega)] at h1
      obtain ⟨cs, h2, h3⟩ := Option.bind_eq_some_iff.1 h1
      obtain ⟨o, ho, hok⟩ := op_trod h3
      obtain ⟨_, hlen8, hc⟩ := World.cells?_some h2
      refine ⟨o, hok, fun j hj => ?_⟩
      rw [← ho]
      exact hc j hj
    have hex : ∃ F : Nat → OpV, ∀ i, i < len → OpOk (F i) ∧ ∀ j, j < 8 → w.cell? ((x.add (i * 8)).add j) = (F i).cells[j]? := by
      obtain ⟨F, hF⟩ := choose_lt (α := OpV) (n := len) (p := fun i o => OpOk o ∧ ∀ j, j < 8 → w.cell? ((x.add (i * 8)).add j) = o.cells[j]?) key
      exact ⟨F, hF⟩
    obtain ⟨F, hF⟩ := hex
    refine ⟨len, F, some x, cap, e, by omega, fun i hi => ⟨(hF i hi).1, ?_⟩⟩
    have h00 := (hF 0 (by omega)).2 0 (by omega)
    rw [Nat.zero_mul] at h00
    have hx0 : x.add 0 = x := by unfold Addr.add; simp
    rw [hx0] at h00
    obtain ⟨b, off, rfl, hb⟩ := spot_none (show w.cell? (x.add 0) = some (Value.int .i64 (F 0).kind) from by rw [h00]; rfl)
    refine ⟨b, off, rfl, hb, fun j hj => ?_⟩
    have := (hF i hi).2 j hj
    rw [add_none, add_none, Nat.add_assoc] at this
    exact this
end
end Go.Proofs.YtmphnoabkmoafaaDoor
