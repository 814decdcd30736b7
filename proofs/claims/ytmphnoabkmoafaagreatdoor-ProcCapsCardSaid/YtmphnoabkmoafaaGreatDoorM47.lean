/- A slice of bools that came in. A slice of Op that came in. -/
import Derived.Test.YtmphnoabkmoafaaGreatDoorM0
import Derived.Deep.Grids
import Derived.Test.YtmphnoabkmoafaaGreatDoorM30
import Derived.ChangeArms
import Derived.ChangeSlices
import Derived.DataReads
import Derived.SizedLaws
namespace Go.Proofs.YtmphnoabkmoafaaGreatDoor
open Go.ChangeShapes Go.WideShapes Go.ChangeAt Go.RowKit Go.Deep
set_option linter.unusedVariables false
/-- A slice of bools that came in. -/
def BoolsAt (w : World) (v : Value) (m : Nat) (F : Nat → Bool) : Prop := ∃ ao cap, v = .slice ao m cap ∧ m ≤ maxLen ∧ ∀ i, i < m → ∃ b off, ao = some ⟨b, off, none⟩ ∧ b < w.heap.size ∧ w.cell? ⟨b, off + i, none⟩ = some (.bool (F i))
theorem spot_none {w : World} {x : Addr} {u : Value} (h1 : w.cell? (x.add 0) = some u) : ∃ b off, x = ⟨b, off, none⟩ ∧ b < w.heap.size := by
  obtain ⟨b, off, spot⟩ := x
  have hs : spot = none ∧ b < w.heap.size := by
    simp only [Addr.add, if_pos] at h1
    unfold World.cell? at h1
    split at h1
    · rename_i heq
      have := (Array.getElem?_eq_some_iff.1 heq).1
      cases spot
      · exact ⟨rfl, this⟩
      · simp at h1
    · cases h1
  obtain ⟨rfl, hb⟩ := hs
  exact ⟨b, off, rfl, hb⟩
theorem add_none (b off i : Nat) : (⟨b, off, none⟩ : Addr).add i = ⟨b, off + i, none⟩ := by
  unfold Addr.add
  split
  · simp
  · rfl
theorem bools_open {H : Type} {enc : TypeId × Value → H} {w : World} {v : Value} {d : DataW H} {p : List MemPlace} (h : DataW.Trod enc Tryz.prog w 0 (fun _ => true) true 23 v d p) (hv : ∃ a l c, v = .slice a l c) : ∃ m F, BoolsAt w v m F := by
  obtain ⟨n, hn⟩ := h
  obtain ⟨a, l, c, rfl⟩ := hv
  rcases open_bools Tryz.underlying23 Tryz.underlying4 (by kernel_rfl) hn with ⟨hcs, _⟩ | ⟨x, len, cap, B, hcs, _, hl, hm, _, hcell⟩
  · have e : Value.slice a l c = .slice none 0 0 := by simpa [Value.cells] using hcs
    exact ⟨0, fun _ => false, none, 0, e, Nat.zero_le _, fun i hi => by omega⟩
  · have e : Value.slice a l c = .slice (some x) len cap := by simpa [Value.cells] using hcs
    refine ⟨len, B, some x, cap, e, by omega, fun i hi => ?_⟩
    obtain ⟨b, off, rfl, hb⟩ := spot_none (hcell 0 (by omega))
    exact ⟨b, off, rfl, hb, by rw [← add_none]; exact hcell i (by omega)⟩
end Go.Proofs.YtmphnoabkmoafaaGreatDoor
namespace Go.Proofs.YtmphnoabkmoafaaGreatDoor
open Go.ChangeShapes Go.WideShapes Go.ChangeAt Go.RowKit Go.Deep
set_option linter.unusedVariables false
variable {uu0 : Unit} [Base uu0]
instance : Inhabited OpP := ⟨⟨0, 0, ⟨#[]⟩, ⟨#[]⟩, [], [], [], []⟩⟩
/-- The slices of an Op. -/
structure OpS where
  a1 : Option Addr
  n1 : Nat
  c1 : Nat
  a2 : Option Addr
  n2 : Nat
  c2 : Nat
  a3 : Option Addr
  n3 : Nat
  c3 : Nat
  a4 : Option Addr
  n4 : Nat
  c4 : Nat
instance : Inhabited OpS := ⟨⟨none, 0, 0, none, 0, 0, none, 0, 0, none, 0, 0⟩⟩
def opCellsL (o : OpP) (s : OpS) : List Value := [.int .i64 o.kind, .int .i64 o.a, .string o.who, .string o.to, .slice s.a1 s.n1 s.c1, .slice s.a2 s.n2 s.c2, .slice s.a3 s.n3 s.c3, .slice s.a4 s.n4 s.c4]
/-- What an Op reads as. -/
structure OpRd (w : World) (o : OpP) (s : OpS) : Prop where
  who : o.who.size ≤ maxLen
  to : o.to.size ≤ maxLen
  iS : IntsAt w (.slice s.a1 s.n1 s.c1) o.S
  iI : IntsAt w (.slice s.a2 s.n2 s.c2) o.I
  iP : IntsAt w (.slice s.a3 s.n3 s.c3) o.P
  iM : IntsAt w (.slice s.a4 s.n4 s.c4) o.M
  nS : o.S.length ≤ 17592186043904
  nI : o.I.length ≤ 17592186043904
  nP : o.P.length ≤ 17592186043904
  nM : o.M.length ≤ 17592186043904
def OpsIn (w : World) (v : Value) (n : Nat) (F : Nat → OpP × OpS) : Prop := ∃ ao cap, v = .slice ao n cap ∧ n ≤ maxLen ∧ ∀ i, i < n → OpRd w (F i).1 (F i).2 ∧ ∃ b off, ao = some ⟨b, off, none⟩ ∧ b < w.heap.size ∧ ∀ j, j < 8 → w.cell? ⟨b, off + (i * 8 + j), none⟩ = (opCellsL (F i).1 (F i).2)[j]?
section
variable {H : Type} {enc : TypeId × Value → H} {w : World}
theorem weightsAll_mem {P : Program} {e : TypeId} : ∀ {l : List (DataW H)} {d : DataW H}, d ∈ l → ∀ n ∈ d.weights P e, n ∈ DataW.weightsAll P e l
  | [], _, h, _, _ => by cases h
  | x :: r, d, h, n, hn => by
    simp only [DataW.weightsAll, List.mem_append]
    rcases List.mem_cons.1 h with rfl | h
    · exact .inl hn
    · exact .inr (weightsAll_mem h n hn)
theorem sl_trod {n : Nat} {cs : List Value} {x : DataW H × List MemPlace} (hlo : w.heap.size ≤ Base.lo) (h : DataW.trod enc Tryz.prog w 0 (fun _ => true) true n 30 cs = some x) (hs : ∀ k ∈ x.1.weights Tryz.prog 30, k ≤ reachBytes) :
    ∃ a m c l, cs = [.slice a m c] ∧ IntsAt w (.slice a m c) l ∧ l.length ≤ 17592186043904 := by
  rcases open_ints Tryz.underlying30 Tryz.underlying3 (by kernel_rfl) h with ⟨hcs, _⟩ | ⟨x0, len, cap, zs, hcs, _, hl, hm, hz, hx, hcell, hwz⟩
  · exact ⟨none, 0, 0, [], hcs, IntsAt.nil _, Nat.zero_le _⟩
  · have hz' : zs.length = cap := by simpa using hz
    refine ⟨some x0, len, cap, zs.take len, hcs, ?_, ?_⟩
    · rcases Nat.eq_zero_or_pos len with h0 | h0
      · subst h0
        exact .inl ⟨rfl, some x0, cap, rfl, fun h => by cases h⟩
      · have hlen : (zs.take len).length = len := by rw [List.length_take]; omega
        obtain ⟨b, off, rfl, hb⟩ := spot_none (hcell 0 (by omega))
        refine .inr ⟨b, off, cap, by rw [hlen], by omega, by omega, ⟨hb, .inr (by omega)⟩, fun j hj => ?_⟩
        rw [hlen] at hj
        have := hcell j (by omega)
        rw [add_none] at this
        rw [this]
        simp [List.getD, hj]
    · have h1 := hs (zs.length * Tryz.prog.bytesOf 3) (by
        rw [hx]
        simp only [DataW.weights, Tryz.underlying30]
        refine List.mem_cons.2 (.inl ?_)
        simp only [Go.ChangeShapes.lits, List.length_map, List.length_take, List.length_drop]
        congr 1; omega)
      have b3 : Tryz.prog.bytesOf 3 = 8 := by kernel_rfl
      rw [b3] at h1
      unfold reachBytes at h1
      have := List.length_take_le len zs
      omega
theorem pair_trod {n t : Nat} {cs : List Value} {x : DataW H × List MemPlace} {f0 f1 : Field} (hlo : w.heap.size ≤ Base.lo) (ht : Tryz.prog.underlying t = some (.struct #[f0, f1])) (e0 : f0.type = 30) (e1 : f1.type = 30) (o0 : f0.offset = 0) (o1 : f1.offset = 1) (hl : cs.length = 2) (h : DataW.trod enc Tryz.prog w 0 (fun _ => true) true n t cs = some x) (hs : ∀ k ∈ x.1.weights Tryz.prog t, k ≤ reachBytes) :
    ∃ a m c l a' m' c' l', cs = [.slice a m c, .slice a' m' c'] ∧ IntsAt w (.slice a m c) l ∧ l.length ≤ 17592186043904 ∧ IntsAt w (.slice a' m' c') l' ∧ l'.length ≤ 17592186043904 := by
  obtain ⟨c0, c1, rfl⟩ : ∃ c0 c1, cs = [c0, c1] := by
    rcases cs with _ | ⟨c0, _ | ⟨c1, _ | ⟨c2, r⟩⟩⟩
    · simp at hl
    · simp at hl
    · exact ⟨c0, c1, rfl⟩
    · simp at hl
  obtain ⟨xs, m, _, hxe, _, hlen, hf⟩ := DataW.trod_struct ht h
  have hx : xs.length = 2 := hlen
  obtain ⟨y0, y1, rfl⟩ : ∃ y0 y1, xs = [y0, y1] := by
    rcases xs with _ | ⟨y0, _ | ⟨y1, _ | ⟨y2, r⟩⟩⟩
    · simp at hx
    · simp at hx
    · exact ⟨y0, y1, rfl⟩
    · simp at hx
  have h0 := hf 0 f0 rfl
  have h1 := hf 1 f1 rfl
  have c30 : Tryz.prog.cellsOf 30 = 1 := by kernel_rfl
  rw [e0, o0, c30] at h0
  rw [e1, o1, c30] at h1
  have hw : ∀ k, k ∈ y0.1.weights Tryz.prog 30 ∨ k ∈ y1.1.weights Tryz.prog 30 → k ≤ reachBytes := by
    intro k hk
    refine hs k ?_
    rw [hxe]
    simp only [DataW.weights, ht, List.map_cons, List.map_nil, DataW.weightsEach, e0, e1, List.mem_append]
    rcases hk with hk | hk
    · exact .inl hk
    · exact .inr (.inl hk)
  obtain ⟨a, m1, c, l, hv, i1, s1⟩ := sl_trod hlo h0 fun k hk => hw k (.inl hk)
  obtain ⟨a', m2, c', l', hu, i2, s2⟩ := sl_trod hlo h1 fun k hk => hw k (.inr hk)
  simp at hv hu
  exact ⟨a, m1, c, l, a', m2, c', l', by rw [hv, hu], i1, s1, i2, s2⟩
theorem op_trod {n : Nat} {cs : List Value} {x : DataW H × List MemPlace} (hlo : w.heap.size ≤ Base.lo) (h : DataW.trod enc Tryz.prog w 0 (fun _ => true) true n 36 cs = some x) (hs : ∀ k ∈ x.1.weights Tryz.prog 36, k ≤ reachBytes) : ∃ q : OpP × OpS, cs = opCellsL q.1 q.2 ∧ OpRd w q.1 q.2 := by
  obtain ⟨xs, m, _, hxe, hl, hlen, hf⟩ := DataW.trod_struct Tryz.underlying36 h
  have c51 : Tryz.prog.cellsOf 36 = 8 := by kernel_rfl
  have c3 : Tryz.prog.cellsOf 3 = 1 := by kernel_rfl
  have c9 : Tryz.prog.cellsOf 9 = 1 := by kernel_rfl
  have c41 : Tryz.prog.cellsOf 32 = 2 := by kernel_rfl
  have c43 : Tryz.prog.cellsOf 34 = 2 := by kernel_rfl
  rw [c51] at hl
  obtain ⟨k0, k1, k2, k3, k4, k5, k6, k7, rfl⟩ : ∃ k0 k1 k2 k3 k4 k5 k6 k7, cs = [k0, k1, k2, k3, k4, k5, k6, k7] := by
    rcases cs with _ | ⟨k0, _ | ⟨k1, _ | ⟨k2, _ | ⟨k3, _ | ⟨k4, _ | ⟨k5, _ | ⟨k6, _ | ⟨k7, _ | ⟨k8, r⟩⟩⟩⟩⟩⟩⟩⟩⟩
    all_goals first | (exact ⟨_, _, _, _, _, _, _, _, rfl⟩) | (simp at hl; done) | (simp at hl; omega)
  have hx : xs.length = 6 := hlen
  obtain ⟨y0, y1, y2, y3, y4, y5, rfl⟩ : ∃ y0 y1 y2 y3 y4 y5, xs = [y0, y1, y2, y3, y4, y5] := by
    rcases xs with _ | ⟨k0, _ | ⟨k1, _ | ⟨k2, _ | ⟨k3, _ | ⟨k4, _ | ⟨k5, _ | ⟨k6, r⟩⟩⟩⟩⟩⟩⟩
    all_goals first | (exact ⟨_, _, _, _, _, _, rfl⟩) | (simp at hx; done) | (simp at hx; omega)
  have h0 : DataW.trod enc Tryz.prog w 0 (fun _ => true) true m 3 (([k0, k1, k2, k3, k4, k5, k6, k7].drop 0).take (Tryz.prog.cellsOf 3)) = some y0 := hf 0 _ rfl
  have h1 : DataW.trod enc Tryz.prog w 0 (fun _ => true) true m 3 (([k0, k1, k2, k3, k4, k5, k6, k7].drop 1).take (Tryz.prog.cellsOf 3)) = some y1 := hf 1 _ rfl
  have h2 : DataW.trod enc Tryz.prog w 0 (fun _ => true) true m 9 (([k0, k1, k2, k3, k4, k5, k6, k7].drop 2).take (Tryz.prog.cellsOf 9)) = some y2 := hf 2 _ rfl
  have h3 : DataW.trod enc Tryz.prog w 0 (fun _ => true) true m 9 (([k0, k1, k2, k3, k4, k5, k6, k7].drop 3).take (Tryz.prog.cellsOf 9)) = some y3 := hf 3 _ rfl
  have h4 : DataW.trod enc Tryz.prog w 0 (fun _ => true) true m 32 (([k0, k1, k2, k3, k4, k5, k6, k7].drop 4).take (Tryz.prog.cellsOf 32)) = some y4 := hf 4 _ rfl
  have h5 : DataW.trod enc Tryz.prog w 0 (fun _ => true) true m 34 (([k0, k1, k2, k3, k4, k5, k6, k7].drop 6).take (Tryz.prog.cellsOf 34)) = some y5 := hf 5 _ rfl
  have hw : ∀ k, k ∈ y4.1.weights Tryz.prog 32 ∨ k ∈ y5.1.weights Tryz.prog 34 → k ≤ reachBytes := by
    intro k hk
    refine hs k ?_
    rw [hxe]
    simp only [DataW.weights, Tryz.underlying36]
    rcases hk with hk | hk
    · exact DataW.weights_mem_each (j := 4) rfl rfl k hk
    · exact DataW.weights_mem_each (j := 5) rfl rfl k hk
  rw [c3] at h0 h1
  rw [c9] at h2 h3
  rw [c41] at h4
  rw [c43] at h5
  obtain ⟨a0, e0, _⟩ := DataW.trod_int Tryz.underlying3 h0
  obtain ⟨a1, e1, _⟩ := DataW.trod_int Tryz.underlying3 h1
  obtain ⟨s2, e2, _, l2⟩ := DataW.trod_string Tryz.underlying9 h2
  obtain ⟨s3, e3, _, l3⟩ := DataW.trod_string Tryz.underlying9 h3
  obtain ⟨ao1, m1, d1, lS, ao2, m2, d2, lI, e4, i4, q4, i5, q5⟩ := pair_trod hlo Tryz.underlying32 rfl rfl rfl rfl (by simp) h4 fun k hk => hw k (.inl hk)
  obtain ⟨ao3, m3, d3, lP, ao4, m4, d4, lM, e6, i6, q6, i7, q7⟩ := pair_trod hlo Tryz.underlying34 rfl rfl rfl rfl (by simp) h5 fun k hk => hw k (.inr hk)
  simp at e0 e1 e2 e3 e4 e6
  refine ⟨(⟨a0, a1, s2, s3, lS, lI, lP, lM⟩, ⟨ao1, m1, d1, ao2, m2, d2, ao3, m3, d3, ao4, m4, d4⟩), ?_, l2, l3, i4, i5, i6, i7, q4, q5, q6, q7⟩
  unfold opCellsL
  rw [e0, e1, e2, e3, e4.1, e4.2, e6.1, e6.2]
theorem ops_open {v : Value} {d : DataW H} {p : List MemPlace} (hlo : w.heap.size ≤ Base.lo) (h : DataW.Trod enc Tryz.prog w 0 (fun _ => true) true 22 v d p) (hv : ∃ a l c, v = .slice a l c) (hs : ∀ k ∈ d.weights Tryz.prog 22, k ≤ reachBytes) : ∃ m F, OpsIn w v m F := by
  obtain ⟨n, hn⟩ := h
  obtain ⟨a, l, c, rfl⟩ := hv
  have c51 : Tryz.prog.cellsOf 36 = 8 := by kernel_rfl
  rcases DataW.trod_slice Tryz.underlying22 hn with ⟨hcs, _⟩ | ⟨x, len, cap, elems, rest, k, _, hcs, hxe, _, hl, hm, hlen, hel, _, _⟩
  · have e : Value.slice a l c = .slice none 0 0 := by simpa [Value.cells] using hcs
    exact ⟨0, fun _ => default, none, 0, e, Nat.zero_le _, fun i hi => by omega⟩
  · have e : Value.slice a l c = .slice (some x) len cap := by simpa [Value.cells] using hcs
    obtain ⟨rfl, _⟩ : d = .slice (elems.map (·.1)) (rest.map (·.1)) ∧ _ := by simpa using hxe
    have key : ∀ i, i < len → ∃ q : OpP × OpS, OpRd w q.1 q.2 ∧ ∀ j, j < 8 → w.cell? ((x.add (i * 8)).add j) = (opCellsL q.1 q.2)[j]? := fun i hi => by
      have h1 := hel i hi
      rw [c51, List.getElem?_eq_getElem (by omega)] at h1
      obtain ⟨cs, h2, h3⟩ := Option.bind_eq_some_iff.1 h1
      obtain ⟨q, ho, hok⟩ := op_trod hlo h3 (fun k hk => hs k (by
        simp only [DataW.weights, Tryz.underlying22]
        refine List.mem_cons_of_mem _ (List.mem_append_left _ (weightsAll_mem (d := (elems[i]'(by omega)).1) (List.mem_map.2 ⟨_, List.getElem_mem (by omega), rfl⟩) k hk))))
      obtain ⟨_, hlen8, hc⟩ := World.cells?_some h2
      refine ⟨q, hok, fun j hj => ?_⟩
      rw [← ho]
      exact hc j hj
    have hex : ∃ F : Nat → OpP × OpS, ∀ i, i < len → OpRd w (F i).1 (F i).2 ∧ ∀ j, j < 8 → w.cell? ((x.add (i * 8)).add j) = (opCellsL (F i).1 (F i).2)[j]? := by
      obtain ⟨F, hF⟩ := choose_lt (α := OpP × OpS) (n := len) (p := fun i q => OpRd w q.1 q.2 ∧ ∀ j, j < 8 → w.cell? ((x.add (i * 8)).add j) = (opCellsL q.1 q.2)[j]?) key
      exact ⟨F, hF⟩
    obtain ⟨F, hF⟩ := hex
    refine ⟨len, F, some x, cap, e, by omega, fun i hi => ⟨(hF i hi).1, ?_⟩⟩
    have h00 := (hF 0 (by omega)).2 0 (by omega)
    rw [Nat.zero_mul] at h00
    have hx0 : x.add 0 = x := by unfold Addr.add; simp
    rw [hx0] at h00
    obtain ⟨b, off, rfl, hb⟩ := spot_none (show w.cell? (x.add 0) = some (Value.int .i64 (F 0).1.kind) from by rw [h00]; rfl)
    refine ⟨b, off, rfl, hb, fun j hj => ?_⟩
    have := (hF i hi).2 j hj
    rw [add_none, add_none, Nat.add_assoc] at this
    exact this
end
end Go.Proofs.YtmphnoabkmoafaaGreatDoor
