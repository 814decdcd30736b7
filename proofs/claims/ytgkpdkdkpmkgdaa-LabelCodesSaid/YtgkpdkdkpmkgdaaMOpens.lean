/- What came in reads as lists. -/
import Derived.Test.YtgkpdkdkpmkgdaaSome
import Derived.Lib.SmallJoins
import Derived.SizedLaws
import Derived.ChangeSlices
import Derived.Test.YtgkpdkdkpmkgdaaBytes
namespace Go.Proofs.Ytgkpdkdkpmkgdaa
open Go.RowKit
section
variable {w : World} {a : Option Addr} {len cap : Nat} {zs : List Int}
theorem intsAt_row (h : (a = none ∧ len = 0 ∧ cap = 0 ∧ zs = []) ∨ ∃ x, a = some x ∧ len ≤ cap ∧ cap ≤ maxLen ∧ zs.length = cap ∧ (∀ i, i < zs.length → w.cell? (x.add i) = some (.int .i64 (zs.getD i 0))) ∧ ∀ n ∈ zs, (Lit.int .i64 n).wf = true) :
    IntsAt w (.slice a len cap) (zs.take len) := by
  rcases h with ⟨rfl, rfl, rfl, rfl⟩ | ⟨x, rfl, hl, hm, hz, hcell, hwf⟩
  · exact IntsAt.nil w
  · rcases Nat.eq_zero_or_pos len with h0 | h0
    · subst h0
      exact .inl ⟨rfl, some x, cap, rfl, fun h => by cases h⟩
    · have hlen : (zs.take len).length = len := by rw [List.length_take]; omega
      have h1 := hcell 0 (by omega)
      obtain ⟨b, off, spot⟩ := x
      have hs : spot = none ∧ b < w.heap.size := by
        simp only [Addr.add, if_pos] at h1
        unfold World.cell? at h1
        split at h1
        · rename_i heq
          have := (Array.getElem?_eq_some_iff.1 heq).1
          cases spot
          · exact ⟨rfl, this⟩
          · simp at h1
        · cases h1
      obtain ⟨rfl, hb⟩ := hs
      refine .inr ⟨b, off, cap, by rw [hlen], by omega, by omega, hb, fun j hj => ?_⟩
      have := hcell j (by omega)
      rw [Addr.add_mid] at this
      rw [this]
      have hj' : j < len := by omega
      simp [List.getD, hj']
theorem bytes3 : Try.prog.bytesOf 3 = 8 := by kernel_rfl
theorem ints_size {P : Prop} (h : P) (hc : P → len ≤ cap) (hs : cap * Try.prog.bytesOf 3 ≤ reachBytes) : (zs.take len).length ≤ 17592186043904 := by
  have h1 := hc h
  have h2 := List.length_take_le len zs
  rw [bytes3] at hs
  unfold reachBytes at hs
  omega
theorem len_le (h : (a = none ∧ len = 0 ∧ cap = 0 ∧ zs = []) ∨ ∃ x, a = some x ∧ len ≤ cap ∧ cap ≤ maxLen ∧ zs.length = cap ∧ (∀ i, i < zs.length → w.cell? (x.add i) = some (.int .i64 (zs.getD i 0))) ∧ ∀ n ∈ zs, (Lit.int .i64 n).wf = true) : len ≤ cap := by
  rcases h with ⟨rfl, rfl, rfl, rfl⟩ | ⟨x, rfl, hl, _⟩
  · exact Nat.le_refl _
  · exact hl
end
end Go.Proofs.Ytgkpdkdkpmkgdaa

namespace Go.Proofs.Ytgkpdkdkpmkgdaa
open Go.ChangeShapes Go.WideShapes Go.RowKit Go.Joins Go.Deep
theorem cells26 : Try.prog.cellsOf 26 = 2 := by kernel_rfl
theorem cells37 : Try.prog.cellsOf 37 = 2 := by kernel_rfl
section
variable {H : Type} {enc : TypeId × Value → H} {w : World}
theorem ints_trod {n : Nat} {v : Value} {y : DataW H × List MemPlace} (h : DataW.trod enc Try.prog w 0 (fun _ => true) true n 22 [v] = some y) (hs : ∀ k ∈ y.1.weights Try.prog 22, k ≤ reachBytes) :
    ∃ l, IntsAt w v l ∧ l.length ≤ 17592186043904 := by
  rcases open_ints Try.underlying22 Try.underlying3 (by kernel_rfl) h with ⟨hcs, _⟩ | ⟨x, len, cap, zs, hcs, _, hl, hm, hz, hx, hcell, hwz⟩
  · obtain rfl : v = .slice none 0 0 := by simpa using hcs
    exact ⟨[], IntsAt.nil _, Nat.zero_le _⟩
  · obtain rfl : v = .slice (some x) len cap := by simpa using hcs
    have hz' : zs.length = cap := by simpa using hz
    refine ⟨zs.take len, intsAt_row (.inr ⟨x, rfl, hl, hm, hz', hcell, hwz⟩), ?_⟩
    have h1 := hs ((zs.length) * Try.prog.bytesOf 3) (by
      rw [hx]
      simp only [DataW.weights, Try.underlying22]
      refine List.mem_cons.2 (.inl ?_)
      simp only [Go.ChangeShapes.lits, List.length_map, List.length_take, List.length_drop]
      congr 1; omega)
    rw [bytes3] at h1
    unfold reachBytes at h1
    have := List.length_take_le len zs
    omega
theorem ints_open {v : Value} {d : DataW H} {p : List MemPlace} (h : DataW.Trod enc Try.prog w 0 (fun _ => true) true 22 v d p) (hv : ∃ a l c, v = .slice a l c) (hs : ∀ k ∈ d.weights Try.prog 22, k ≤ reachBytes) :
    ∃ l, IntsAt w v l ∧ l.length ≤ 17592186043904 := by
  obtain ⟨n, hn⟩ := h
  obtain ⟨a, l, c, rfl⟩ := hv
  exact ints_trod (y := (d, p)) hn hs
theorem pair_open {r : Reach} {b0 : Nat} {t : TypeId} {f0 f1 : Field} {v : Value} {d : DataW H} {p : List MemPlace} (hs : Try.prog.underlying t = some (.struct #[f0, f1])) (h0 : f0.type = 22) (h1 : f1.type = 22) (hone : oneCellFields Try.prog #[f0, f1] = true) (hC : Try.prog.cellsOf t = 2)
    (hv : Value.okWide Try.prog w r b0 t v) (h : DataW.Trod enc Try.prog w 0 (fun _ => true) true t v d p) (hz : ∀ k ∈ d.weights Try.prog t, k ≤ reachBytes) :
    ∃ v0 v1 l0 l1, v = .agg #[v0, v1] ∧ IntsAt w v0 l0 ∧ l0.length ≤ 17592186043904 ∧ IntsAt w v1 l1 ∧ l1.length ≤ 17592186043904 := by
  obtain ⟨v0, v1, y0, y1, n, rfl, rfl, rfl, k0, k1⟩ := open_agg2 hs hone hC hv h
  rw [h0] at k0
  rw [h1] at k1
  have hw : ∀ k, k ∈ y0.1.weights Try.prog 22 ∨ k ∈ y1.1.weights Try.prog 22 → k ≤ reachBytes := by
    intro k hk
    refine hz k ?_
    simp only [DataW.weights, hs, List.map_cons, List.map_nil, DataW.weightsEach, h0, h1, List.mem_append]
    rcases hk with hk | hk
    · exact .inl hk
    · exact .inr (.inl hk)
  obtain ⟨l0, i0, s0⟩ := ints_trod k0 fun k hk => hw k (.inl hk)
  obtain ⟨l1, i1, s1⟩ := ints_trod k1 fun k hk => hw k (.inr hk)
  exact ⟨v0, v1, l0, l1, rfl, i0, s0, i1, s1⟩
theorem sized_at {ts : List TypeId} {ds : List (DataW H)} (h : (DataW.weightsEach Try.prog ts ds).all (· ≤ reachBytes) = true) {j : Nat} {t : TypeId} {d : DataW H} (ht : ts[j]? = some t) (hd : ds[j]? = some d) : ∀ k ∈ d.weights Try.prog t, k ≤ reachBytes := by
  intro k hk
  have := List.all_eq_true.1 h _ (DataW.weights_mem_each ht hd k hk)
  simpa using this
end
end Go.Proofs.Ytgkpdkdkpmkgdaa

namespace Go.Proofs.Ytgkpdkdkpmkgdaa
open Go.ChangeShapes Go.WideShapes Go.RowKit Go.Joins Go.Deep
theorem bytes5 : Try.prog.bytesOf 5 = 1 := by kernel_rfl
section
variable {H : Type} {enc : TypeId × Value → H} {w : World}
theorem bytesAt_row {a : Option Addr} {len cap : Nat} {zs : List Int} (h : (a = none ∧ len = 0 ∧ cap = 0 ∧ zs = []) ∨ ∃ x, a = some x ∧ len ≤ cap ∧ cap ≤ maxLen ∧ zs.length = cap ∧ (∀ i, i < zs.length → w.cell? (x.add i) = some (.int .u8 (zs.getD i 0))) ∧ ∀ n ∈ zs, (Lit.int .u8 n).wf = true) :
    BytesAt w (.slice a len cap) (zs.take len) := by
  rcases h with ⟨rfl, rfl, rfl, rfl⟩ | ⟨x, rfl, hl, hm, hz, hcell, hwf⟩
  · exact BytesAt.nil w
  · rcases Nat.eq_zero_or_pos len with h0 | h0
    · subst h0
      exact .inl ⟨rfl, some x, cap, rfl, fun h => by cases h⟩
    · have hlen : (zs.take len).length = len := by rw [List.length_take]; omega
      have h1 := hcell 0 (by omega)
      obtain ⟨b, off, spot⟩ := x
      have hs : spot = none ∧ b < w.heap.size := by
        simp only [Addr.add, if_pos] at h1
        unfold World.cell? at h1
        split at h1
        · rename_i heq
          have := (Array.getElem?_eq_some_iff.1 heq).1
          cases spot
          · exact ⟨rfl, this⟩
          · simp at h1
        · cases h1
      obtain ⟨rfl, hb⟩ := hs
      refine .inr ⟨b, off, cap, by rw [hlen], by omega, by omega, hb, fun j hj => ?_⟩
      have := hcell j (by omega)
      rw [Addr.add_mid] at this
      rw [this]
      have hj' : j < len := by omega
      simp [List.getD, hj']
theorem bytes_open {v : Value} {d : DataW H} {p : List MemPlace} (h : DataW.Trod enc Try.prog w 0 (fun _ => true) true 47 v d p) (hv : ∃ a l c, v = .slice a l c) (hs : ∀ k ∈ d.weights Try.prog 47, k ≤ reachBytes) :
    ∃ l, BytesAt w v l ∧ Octs l ∧ l.length ≤ 140737488351232 := by
  obtain ⟨n, hn⟩ := h
  obtain ⟨a, l, c, rfl⟩ := hv
  rcases open_ints Try.underlying47 Try.underlying5 (by kernel_rfl) hn with ⟨hcs, _⟩ | ⟨x, len, cap, zs, hcs, _, hl, hm, hz, hx, hcell, hwz⟩
  · simp [Value.cells] at hcs
    obtain ⟨rfl, rfl, rfl⟩ := hcs
    exact ⟨[], BytesAt.nil _, (fun x hx => by cases hx), Nat.zero_le _⟩
  · simp [Value.cells] at hcs
    obtain ⟨rfl, rfl, rfl⟩ := hcs
    have hz' : zs.length = c := by simpa using hz
    refine ⟨zs.take l, bytesAt_row (.inr ⟨x, rfl, hl, hm, hz', hcell, hwz⟩), fun y hy => ?_, ?_⟩
    · have := hwz y (List.mem_of_mem_take hy)
      simp [Lit.wf, IntKind.min, IntKind.max, IntKind.signed, IntKind.bits] at this
      omega
    · obtain ⟨rfl, _⟩ : d = .slice (Go.ChangeShapes.lits .u8 (zs.take l)) (Go.ChangeShapes.lits .u8 (zs.drop l)) ∧ True := by simp only [Prod.mk.injEq] at hx; exact ⟨hx.1, trivial⟩
      have h1 := hs ((zs.length) * Try.prog.bytesOf 5) (by
        simp only [DataW.weights, Try.underlying47]
        refine List.mem_cons.2 (.inl ?_)
        simp only [Go.ChangeShapes.lits, List.length_map, List.length_take, List.length_drop]
        congr 1; omega)
      rw [bytes5] at h1
      unfold reachBytes at h1
      have := List.length_take_le l zs
      omega
end
end Go.Proofs.Ytgkpdkdkpmkgdaa
