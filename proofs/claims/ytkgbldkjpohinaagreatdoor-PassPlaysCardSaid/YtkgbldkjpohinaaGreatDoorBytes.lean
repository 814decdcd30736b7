/- Slices of bytes as lists of numbers: what is read, what is appended, what becomes a string. -/
import Derived.Laws.BytesArg
import Derived.Lib.ConvBytes
import Derived.Laws.IdiomStrings
import Derived.Laws.AppendOwnNone
import Derived.Test.YtkgbldkjpohinaaGreatDoorShaBase
namespace Go.Proofs.YtkgbldkjpohinaaGreatDoor
open Go.RowKit

def octets (l : List Int) : List Value := l.map (Value.int .u8)
def Octs (l : List Int) : Prop := ∀ x ∈ l, 0 ≤ x ∧ x < 256
def bytesOf (s : ByteArray) : List Int := s.data.toList.map fun b => (b.toNat : Int)
theorem bytesOf_length (s : ByteArray) : (bytesOf s).length = s.size := by simp [bytesOf]
theorem bytesOf_octs (s : ByteArray) : Octs (bytesOf s) := by
  intro x hx
  simp only [bytesOf, List.mem_map] at hx
  obtain ⟨b, _, rfl⟩ := hx
  have := b.toNat_lt
  omega
theorem Octs.append {a b : List Int} (ha : Octs a) (hb : Octs b) : Octs (a ++ b) := by
  intro x hx
  rcases List.mem_append.1 hx with h | h
  · exact ha x h
  · exact hb x h
theorem Octs.getD {l : List Int} (h : Octs l) (j : Nat) : 0 ≤ l.getD j 0 ∧ l.getD j 0 < 256 := by
  rcases Nat.lt_or_ge j l.length with hj | hj
  · have : l.getD j 0 = l[j] := by simp [List.getD, hj]
    rw [this]; exact h _ (List.getElem_mem hj)
  · have : l.getD j 0 = 0 := by simp [List.getD, List.getElem?_eq_none hj]
    rw [this]; omega

/-- v is a slice that reads as the bytes l in the world w. -/
def BytesAt (w : World) (v : Value) (l : List Int) : Prop :=
  (l = [] ∧ ∃ ao c, v = .slice ao 0 c ∧ (ao = none → c = 0)) ∨
  ∃ b off c, v = .slice (some ⟨b, off, none⟩) l.length c ∧ 0 < l.length ∧ l.length ≤ c ∧ b < w.heap.size ∧ ∀ j, j < l.length → w.cell? ⟨b, off + j, none⟩ = some (.int .u8 (l.getD j 0))

section
variable {w w' : World} {v : Value} {l : List Int}
theorem BytesAt.nil (w : World) : BytesAt w (.slice none 0 0) [] := .inl ⟨rfl, none, 0, rfl, fun _ => rfl⟩
theorem BytesAt.below {B : Nat} (h : BytesAt w v l) (hb : Below B w w') (hB : w.heap.size ≤ B) : BytesAt w' v l := by
  rcases h with h | ⟨b, off, c, hv, h0, hc, hlt, hcell⟩
  · exact .inl h
  · exact .inr ⟨b, off, c, hv, h0, hc, by have := hb.size; omega, fun j hj => (hb.cell (p := ⟨b, off + j, none⟩) (by simp only; omega)).trans (hcell j hj)⟩
theorem BytesAt.drewN (h : BytesAt w v l) (n : Nat) : BytesAt (w.drewN n) v l := h
theorem BytesAt.alloc (h : BytesAt w v l) (o : Obj) : BytesAt (w.alloc o) v l :=
  h.below ((Below.refl w.heap.size w).alloc (Nat.le_refl _) o) (Nat.le_refl _)
theorem BytesAt.shape (h : BytesAt w v l) : ∃ ao c, v = .slice ao l.length c := by
  rcases h with ⟨rfl, ao, c, rfl, _⟩ | ⟨b, off, c, rfl, _⟩
  · exact ⟨ao, c, rfl⟩
  · exact ⟨_, c, rfl⟩
/-- An owned row of bytes reads as its bytes. -/
theorem BytesAt.of_owns {base : Nat} {e : TypeId} {n : Nat} (h : w.ownsRow base e 1 v n (octets l)) : BytesAt w v l := by
  have hn : l.length = n := by simpa [octets] using h.1
  rcases h.2 with ⟨rfl, rfl⟩ | ⟨g, cap, cur, rfl, _, hg, hnc, _, _, htake⟩
  · exact .inl ⟨List.eq_nil_of_length_eq_zero hn, none, 0, rfl, fun _ => rfl⟩
  · rcases Nat.eq_zero_or_pos l.length with h0 | h0
    · exact .inl ⟨List.eq_nil_of_length_eq_zero h0, some ⟨g, 0, none⟩, cap, by rw [← hn, h0], fun h => by cases h⟩
    · refine .inr ⟨g, 0, cap, by rw [hn], h0, by omega, (Array.getElem?_eq_some_iff.1 hg).1, fun j hj => ?_⟩
      have hu : (octets l)[j]? = some (.int .u8 (l.getD j 0)) := by simp [octets, List.getD, hj]
      have := h.cells (g := g) rfl j _ hu
      rw [Addr.add_mid] at this
      exact this
def sliceLen : Value → Nat | .slice _ n _ => n | _ => 0
theorem owns_shape {base : Nat} {e : TypeId} {sz n : Nat} {xs : List Value} (h : w.ownsRow base e sz v n xs) : ∃ ao c, v = .slice ao n c ∧ n ≤ c ∧ (ao = none → c = 0) := by
  rcases h.2 with ⟨rfl, rfl⟩ | ⟨g, cap, cur, rfl, _, _, hnc, _⟩
  · exact ⟨none, 0, rfl, Nat.le_refl _, fun _ => rfl⟩
  · exact ⟨_, cap, rfl, hnc, fun h => by cases h⟩
theorem owns_cells {base : Nat} {e : TypeId} {n : Nat} (h : w.ownsRow base e 1 v n (octets l)) (hn : 0 < n) : ∃ g cap, v = .slice (some ⟨g, 0, none⟩) n cap ∧ base ≤ g ∧ g < w.heap.size ∧ n ≤ cap ∧ cap ≤ maxLen ∧ ∀ j, j < l.length → w.cell? ⟨g, j, none⟩ = some (.int .u8 (l.getD j 0)) := by
  rcases h.2 with ⟨_, rfl⟩ | ⟨g, cap, cur, rfl, hb, hg, hnc, hcm, _, htake⟩
  · omega
  · refine ⟨g, cap, rfl, hb, (Array.getElem?_eq_some_iff.1 hg).1, hnc, hcm, fun j hj => ?_⟩
    have hu : (octets l)[j]? = some (.int .u8 (l.getD j 0)) := by simp [octets, List.getD, hj]
    have := h.cells (g := g) rfl j _ hu
    rw [Addr.add_mid, Nat.zero_add] at this
    exact this
/-- The slice of one byte, of four bytes, that a call lays for an append. -/
theorem BytesAt.new (w : World) (e : TypeId) (l : List Int) (h : 0 < l.length) : BytesAt (w.alloc (.cells (octets l).toArray e)) (.slice (some ⟨w.heap.size, 0, none⟩) l.length l.length) l :=
  .inr ⟨w.heap.size, 0, l.length, rfl, h, Nat.le_refl _, by simp, fun j hj => by
    rw [cell_of_row _ _ _ _ e (0, 0) (heap_alloc_new w _)]
    simp [octets, List.getD, hj]⟩
theorem octets_oneCell (l : List Int) : ∀ u ∈ octets l, u.oneCell' = true := ints_oneCell _ _
end

section
variable {P : Program} {w : World} {ops : Array Oper} {rest : List Oper} {o : Oper} {a : Act} {Q : Exit → Act → World → Prop}
/-- 'append(out, b...)', out the call's own, b whatever slice of bytes. -/
theorem wp_append_bytes {K : Act → World → Prop} (s x : Operand) (t : TypeId)
    (ho : o.op = .call { callee := .builtin .append, args := #[s, x], argTypes := #[t, t] })
    (base : Nat) (e : TypeId) (i : TypeInfo) (z : Value) (ht : P.underlying t = some (.slice e)) (hi : P.info? e = some i) (hz : i.zero = some z)
    (hsize : i.size = 1) (hby : i.bytes = 1) (hzs : z.cells.size = 1)
    (v : Value) (n : Nat) (xs l : List Int) (hs : a.eval s = v) (hown : w.ownsRow base e 1 v n (octets xs))
    (vx : Value) (hx : a.eval x = vx) (hB : BytesAt w vx l)
    (hbytes : n + l.length ≤ 140737488355328) (hbase : base ≤ w.heap.size)
    (h : ∀ v' w', w'.ownsRow base e 1 v' (n + l.length) (octets (xs ++ l)) → w.grownBy w' v.ownBlock → (v' = .slice none 0 0 ↔ v = .slice none 0 0 ∧ l.length = 0) → K (a.put o.dst v') w') : o.wp P a w K Q := by
  rcases hB with ⟨rfl, ao, c, rfl, hao⟩ | ⟨b, off, c, rfl, h0, hc, hlt, hcell⟩
  · cases ao with
    | none =>
      obtain rfl := hao rfl
      have hrun := run_append_owned_none (P := P) w base t o.type e i 1 ht hi v n (octets xs) hown
      unfold Oper.wp
      simp [execOp, ho, resolve, invoke, builtin, hs, hx, hrun, Result.andThen]
      exact h v w (by simpa using hown) (World.grownBy.refl _ _) (by simp)
    | some ad =>
      refine wp_append_own w s x t ho base e i z 1 1 ht hi hz hsize hby hzs (by omega) v n (octets xs) hs hown ad 0 c [] hx rfl (fun j u hu => by simp at hu) (fun u hu => by cases hu) (by simp only [maxLen]; simp at hbytes; omega) (by simp at hbytes; omega) hbase ?_
      intro v' w' h1 h2 h3
      exact h v' w' (by simpa [octets] using h1) h2 h3
  · refine wp_append_own w s x t ho base e i z 1 1 ht hi hz hsize hby hzs (by omega) v n (octets xs) hs hown ⟨b, off, none⟩ l.length c (octets l) hx (by simp [octets]) (fun j u hu => ?_) (octets_oneCell l) (by simp only [maxLen]; omega) (by omega) hbase ?_
    · have hj : j < l.length := by
        have := (List.getElem?_eq_some_iff.1 hu).1
        simpa [octets] using this
      rw [Addr.add_mid, hcell j hj]
      simp [octets, List.getD, hj] at hu ⊢
      exact hu
    · intro v' w' h1 h2 h3
      exact h v' w' (by simpa [octets] using h1) h2 h3
theorem wpList_append_bytes (hgd : o.guard = none) (s x : Operand) (t : TypeId)
    (ho : o.op = .call { callee := .builtin .append, args := #[s, x], argTypes := #[t, t] })
    (base : Nat) (e : TypeId) (i : TypeInfo) (z : Value) (ht : P.underlying t = some (.slice e)) (hi : P.info? e = some i) (hz : i.zero = some z)
    (hsize : i.size = 1) (hby : i.bytes = 1) (hzs : z.cells.size = 1)
    (v : Value) (n : Nat) (xs l : List Int) (hs : a.eval s = v) (hown : w.ownsRow base e 1 v n (octets xs))
    (vx : Value) (hx : a.eval x = vx) (hB : BytesAt w vx l)
    (hbytes : n + l.length ≤ 140737488355328) (hbase : base ≤ w.heap.size)
    (h : ∀ v' w', w'.ownsRow base e 1 v' (n + l.length) (octets (xs ++ l)) → w.grownBy w' v.ownBlock → (v' = .slice none 0 0 ↔ v = .slice none 0 0 ∧ l.length = 0) → wpList P ops Q rest (a.put o.dst v') w') : wpList P ops Q (o :: rest) a w :=
  wpList_plain hgd fun _ hK => wp_append_bytes s x t ho base e i z ht hi hz hsize hby hzs v n xs l hs hown vx hx hB hbytes hbase fun v' w' h1 h2 h3 => hK _ _ (h v' w' h1 h2 h3)
/-- The same as one step of a region that draws its order. -/
theorem step_append_bytes {K : Act → World → Prop} {E : Prop} (hgd : o.guard = none) (s x : Operand) (t : TypeId)
    (ho : o.op = .call { callee := .builtin .append, args := #[s, x], argTypes := #[t, t] })
    (base : Nat) (e : TypeId) (i : TypeInfo) (z : Value) (ht : P.underlying t = some (.slice e)) (hi : P.info? e = some i) (hz : i.zero = some z)
    (hsize : i.size = 1) (hby : i.bytes = 1) (hzs : z.cells.size = 1)
    (v : Value) (n : Nat) (xs l : List Int) (hs : a.eval s = v) (hown : w.ownsRow base e 1 v n (octets xs))
    (vx : Value) (hx : a.eval x = vx) (hB : BytesAt w vx l)
    (hbytes : n + l.length ≤ 140737488355328) (hbase : base ≤ w.heap.size)
    (h : ∀ v' w', w'.ownsRow base e 1 v' (n + l.length) (octets (xs ++ l)) → w.grownBy w' v.ownBlock → (v' = .slice none 0 0 ↔ v = .slice none 0 0 ∧ l.length = 0) → K (a.put o.dst v') w') :
    if Region.wanted o (yielded ops a.tmps) = true then Oper.wp P o a w K Q else E := by
  rw [if_pos (by simp [Region.wanted, hgd])]
  exact wp_append_bytes s x t ho base e i z ht hi hz hsize hby hzs v n xs l hs hown vx hx hB hbytes hbase h
end

/-- 'string(b)'. -/
theorem run_convert_bytesAt {P : Program} {w : World} {v : Value} {l : List Int} (src dst e : TypeId) (hs : P.underlying src = some (.slice e)) (he : P.underlying e = some (.int .u8)) (hd : P.underlying dst = some .string)
    (h : BytesAt w v l) : (convert src dst v).run P w = .ok (.string (strOfNums l)) w := by
  rcases h with ⟨rfl, ao, c, rfl, _⟩ | ⟨b, off, c, rfl, h0, hc, hlt, hcell⟩
  · cases ao with
    | none => rw [run_convert_bytes_nil w src e hs he 0 c dst hd]; rfl
    | some ad =>
      rw [run_convert_bytes_string w src dst e (some ad) 0 c hs he hd]
      rw [run_bytesToString w ad 0 c [] (by simp [loadCells, loadCellsFrom])]
      rfl
  · exact run_convert_bytes_arg w src e hs he b off l.length c l rfl hcell dst hd

theorem wpList_convert_bytes {P : Program} {w : World} {ops : Array Oper} {rest : List Oper} {o : Oper} {a : Act} {Q : Exit → Act → World → Prop} (hgd : o.guard = none) (src dst e : TypeId) (x : Operand) (ho : o.op = .convert src dst x) (v : Value) (l : List Int)
    (hs : P.underlying src = some (.slice e)) (he : P.underlying e = some (.int .u8)) (hd : P.underlying dst = some .string) (hx : a.eval x = v) (hB : BytesAt w v l)
    (h : wpList P ops Q rest (a.put o.dst (.string (strOfNums l))) w) : wpList P ops Q (o :: rest) a w :=
  wpList_val hgd _ (by simp [execOp, ho, hx, run_convert_bytesAt src dst e hs he hd hB]) h
theorem strOfNums_bytesOf (s : ByteArray) : strOfNums (bytesOf s) = s := by
  cases s with
  | mk d =>
    have : (fun n : Int => UInt8.ofNat n.toNat) ∘ (fun b : UInt8 => (b.toNat : Int)) = id := by
      funext b; simp
    simp [strOfNums, bytesOf, this]
theorem bytesOf_strOfNums {l : List Int} (h : Octs l) : bytesOf (strOfNums l) = l := by
  simp only [bytesOf, strOfNums, List.map_map]
  conv => rhs; rw [← List.map_id l]
  apply List.map_congr_left
  intro x hx
  have := h x hx
  simp only [Function.comp, id, UInt8.toNat_ofNat']
  omega
theorem strOfNums_inj {a b : List Int} (ha : Octs a) (hb : Octs b) (h : strOfNums a = strOfNums b) : a = b := by
  rw [← bytesOf_strOfNums ha, ← bytesOf_strOfNums hb, h]
theorem bytesOf_append (s t : ByteArray) : bytesOf (s ++ t) = bytesOf s ++ bytesOf t := by
  simp [bytesOf]
/-- '[]byte(s)'. -/
theorem wpList_string_bytes {P : Program} {w : World} {ops : Array Oper} {rest : List Oper} {o : Oper} {a : Act} {Q : Exit → Act → World → Prop} (hgd : o.guard = none) (src dst e : TypeId) (x : Operand) (ho : o.op = .convert src dst x) (s : ByteArray)
    (hs : P.underlying src = some .string) (hd : P.underlying dst = some (.slice e)) (he : P.underlying e = some (.int .u8)) (hx : a.eval x = .string s)
    (h : ∀ v w', BytesAt w' v (bytesOf s) → Below w.heap.size w w' → wpList P ops Q rest (a.put o.dst v) w') : wpList P ops Q (o :: rest) a w :=
  wpList_plain hgd fun K hK => by
    unfold Oper.wp
    simp [execOp, ho, hx, Lib.run_convert_string_bytes w src dst e s hs hd he, Result.andThen]
    refine hK _ _ (h _ _ ?_ ⟨rfl, rfl, rfl, by rw [Lib.bytesWorld_size]; omega, fun k hk => Lib.bytesWorld_at_old w e s k hk⟩)
    rcases Nat.eq_zero_or_pos s.size with h0 | h0
    · refine .inl ⟨List.eq_nil_of_length_eq_zero (by rw [bytesOf_length, h0]), _, _, by rw [h0], fun h => by cases h⟩
    · refine .inr ⟨w.heap.size, 0, _, by rw [bytesOf_length], by rw [bytesOf_length]; exact h0, by rw [bytesOf_length]; exact grownCap_ge w s.size 0 e, by rw [Lib.bytesWorld_size]; omega, fun j hj => ?_⟩
      rw [bytesOf_length] at hj
      rw [Nat.zero_add, Lib.bytesWorld_cell w e s j hj]
      simp [bytesOf, List.getD, hj]
end Go.Proofs.YtkgbldkjpohinaaGreatDoor
