/- What a book that is read line by line keeps to. -/
import Derived.Test.YtkgbldkjpohinaaDoorLine
import Derived.Test.YtkgbldkjpohinaaDoorText
namespace Go.Proofs.YtkgbldkjpohinaaDoor
open Go.RowKit Go.Maps Go.Sort
set_option linter.unusedVariables false
theorem ins_len (x : Lit × DataW Unit) : ∀ l : List (Lit × DataW Unit), (DataW.insert x l).length = l.length + 1
  | [] => rfl
  | y :: r => by
    unfold DataW.insert
    split
    · rfl
    · rw [List.length_cons, List.length_cons, ins_len x r]
theorem ins_mem {x y : Lit × DataW Unit} : ∀ l : List (Lit × DataW Unit), y ∈ DataW.insert x l → y = x ∨ y ∈ l
  | [], h => .inl (List.mem_singleton.1 h)
  | z :: r, h => by
    unfold DataW.insert at h
    split at h
    · rcases List.mem_cons.1 h with h | h
      · exact .inl h
      · exact .inr h
    · rcases List.mem_cons.1 h with h | h
      · exact .inr (by rw [h]; exact List.mem_cons_self)
      · rcases ins_mem r h with h | h
        · exact .inl h
        · exact .inr (List.mem_cons_of_mem _ h)
structure DInv (D : DataW Unit) (m : Nat) : Prop where
  map : ∃ es : List (Lit × DataW Unit), D = .map es ∧ es.length ≤ m
  ok : ∀ k ∈ strKeys D, UserOk D k
theorem dinv_zero : DInv (.map []) 0 := ⟨⟨[], rfl, Nat.le_refl _⟩, fun k hk => by cases hk⟩
theorem entS_inj {s x s' x' : ByteArray} {t n t' n' : Int} (h : entD s t x n = entD s' t' x' n') : s = s' ∧ t = t' ∧ x = x' ∧ n = n' := entD_inj h
theorem DInv.put {D : DataW Unit} {m : Nat} (h : DInv D m) {k sa ha : ByteArray} {t n : Int} (e : Ent D k sa ha t n) : DInv (D.put (.string k.data.toList) (entD sa t ha n)) (m + 1) := by
  obtain ⟨es, rfl, hl⟩ := h.map
  have hp : (DataW.map es).put (.string k.data.toList) (entD sa t ha n) = .map (DataW.insert (.string k.data.toList, entD sa t ha n) (es.filter fun p => !p.1.sameKey (.string k.data.toList))) := rfl
  refine ⟨⟨_, hp, ?_⟩, fun k' hk' => ?_⟩
  · rw [ins_len]
    have := List.length_filter_le (fun p : Lit × DataW Unit => !p.1.sameKey (.string k.data.toList)) es
    omega
  · by_cases hkk : k' = k.data.toList
    · subst hkk
      refine ⟨by have := e.k16; simpa using this, fun s t' h' n' he => ?_⟩
      rw [atKey_put_same ⟨es, rfl⟩ (keyS _)] at he
      obtain ⟨rfl, rfl, rfl, rfl⟩ := entD_inj he
      exact ⟨e.s16, e.h64, e.t0, e.t1, e.n0, e.n1⟩
    · have hm : k' ∈ strKeys (DataW.map es) := by
        rw [hp] at hk'
        obtain ⟨p, hp2, rfl⟩ := List.mem_map.1 hk'
        rcases ins_mem _ hp2 with rfl | hp3
        · exact absurd rfl hkk
        · exact List.mem_map.2 ⟨p, (List.mem_filter.1 hp3).1, rfl⟩
      obtain ⟨u1, u2⟩ := h.ok k' hm
      refine ⟨u1, fun s t' h' n' he => ?_⟩
      rw [atKey_put_other (by intro c; injection c with c; exact hkk c)] at he
      exact u2 s t' h' n' he
theorem line_short {k : List UInt8} {D : DataW Unit} (h : UserOk D k) : (lineOf k (D.atKey (.string k) noU)).length ≤ 200 := by
  obtain ⟨h1, h2⟩ := h
  generalize D.atKey (.string k) noU = e at *
  unfold lineOf
  split
  · rename_i s t ha n
    obtain ⟨q1, q2, q3, q4, q5, q6⟩ := h2 ⟨s.toArray⟩ t ⟨ha.toArray⟩ n rfl
    have i1 := itoa_len q3 (by omega : t ≤ 2147483647)
    have i2 := itoa_len (by omega : 0 ≤ n) q6
    have hk : (⟨k.toArray⟩ : ByteArray).size ≤ 16 := h1
    have e1 : ∀ b : ByteArray, b.data.toList.length = b.size := fun b => by simp
    rw [e1]
    unfold lineB
    simp only [ByteArray.size_append]
    have o : ∀ c : UInt8, (⟨#[c]⟩ : ByteArray).size = 1 := fun c => rfl
    rw [o, o]
    omega
  · simp
theorem textL_short {D : DataW Unit} : ∀ (ks : List (List UInt8)), (∀ k ∈ ks, UserOk D k) → (textL D ks).length ≤ 200 * ks.length
  | [], _ => by simp [textL]
  | k :: r, h => by
    have h1 := line_short (h k (by simp))
    have h2 := textL_short r (fun x hx => h x (by simp [hx]))
    unfold textL at *
    rw [List.flatMap_cons, List.length_append, List.length_cons]
    omega
theorem DInv.keys {D : DataW Unit} {m : Nat} (h : DInv D m) : (keysOf D).length ≤ m ∧ Maps.size D ≤ m ∧ ∀ k ∈ keysOf D, UserOk D k := by
  obtain ⟨es, rfl, hl⟩ := h.map
  have hk : (strKeys (DataW.map es)).length = es.length := by simp [strKeys]
  refine ⟨by unfold keysOf; rw [List.length_mergeSort, hk]; exact hl, hl, fun k hk => ?_⟩
  unfold keysOf at hk
  rw [List.mem_mergeSort] at hk
  exact h.ok k hk
end Go.Proofs.YtkgbldkjpohinaaDoor
