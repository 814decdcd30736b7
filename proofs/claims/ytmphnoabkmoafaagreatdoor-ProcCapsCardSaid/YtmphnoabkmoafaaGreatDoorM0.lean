/- What every row of this seat wants: a world in which the listed variables hold what the text lays; a slice of bools that came in; the card out of the row. A region that draws its order, whose first n operations only read (their callees may draw) and whose further operations each wait for all ahead of them: one walk of the first n in the text's order, then the rest one by one. -/
import Derived.Test.YtmphnoabkmoafaaGreatDoorRows
import Derived.Test.YtmphnoabkmoafaaGreatDoorTie
import Derived.Test.YtmphnoabkmoafaaGreatDoorCards
import Derived.WalkKit
import Derived.ProofKit
import Derived.LaidMore
import Derived.OpenShut
import Derived.Stop.Joined
import Derived.Below
import Derived.Deep.Quiet
import Derived.StillTail
namespace Go.Proofs.YtmphnoabkmoafaaGreatDoor
open Go.ChangeShapes Go.WideShapes Go.ChangeAt Go.RowKit
set_option linter.unusedVariables false
theorem own : ownKnob Tryz.prog.godebug = none := by kernel_rfl
theorem laidOut : laidOutB Tryz.prog = true := by kernel_rfl
def lay3 : List (String × DataW Unit) := [("math/bits.deBruijn32tab", Rows.laid_math_bits_deBruijn32tab), ("math/bits.deBruijn64tab", Rows.laid_math_bits_deBruijn64tab), ("internal/strconv.uint64pow10", Rows.laid_internal_strconv_uint64pow10)]
/-- The door's own heap meets the condition: three closed facts. -/
theorem door_met (os : Os) (args : Array Value) : laidMetH Tryz.prog lay3 ((World.doorLaid Tryz.prog 400 os).forCall (fun _ _ => 0) ⟨#[], args, []⟩).memory :=
  laidMetH_of_parts3 (fuel := 8) (laidMet_of_run' 8 (by kernel_rfl) (by kernel_rfl)) (by kernel_rfl) (by kernel_rfl)
end Go.Proofs.YtmphnoabkmoafaaGreatDoor
namespace Go.Proofs.YtmphnoabkmoafaaGreatDoor
section
variable {P : Program} {ops : Array Oper} {C : World → Prop} {Q : Exit → Act → World → Prop}

/-- Each operation waits for earlier ones alone; each from n on for all ahead of it; a guard of one of the first n is one of them. -/
def tailB (ops : Array Oper) (n : Nat) : Bool :=
  decide (n ≤ ops.size) && (List.range ops.size).all fun t =>
    (match ops[t]? with
     | some o => o.after.all (fun e => !Region.binds .any e || decide (e.on < t)) && (match o.guard with | some (g, _) => decide (n ≤ t) || decide (g < n) | none => true)
     | none => true) &&
    (decide (t < n) || (List.range t).all fun i => Region.waitsFor .any ops t i)

theorem tailB_edge {n t : Nat} {o : Oper} (h : tailB ops n = true) (ho : ops[t]? = some o) : ∀ e ∈ o.after, Region.binds .any e = true → e.on < t := by
  intro e he hb
  have ht : t < ops.size := (Array.getElem?_eq_some_iff.1 ho).1
  simp only [tailB, Bool.and_eq_true] at h
  have h1 := List.all_eq_true.1 h.2 t (List.mem_range.2 ht)
  rw [ho] at h1
  simp only [Bool.and_eq_true] at h1
  have h2 := Array.all_eq_true_iff_forall_mem.1 h1.1.1 e he
  simpa [hb] using h2
theorem tailB_guard {n t : Nat} {o : Oper} (h : tailB ops n = true) (ho : ops[t]? = some o) (ht : t < n) : ∀ g b, o.guard = some (g, b) → g < n := by
  intro g b hg
  have hts : t < ops.size := (Array.getElem?_eq_some_iff.1 ho).1
  simp only [tailB, Bool.and_eq_true] at h
  have h1 := List.all_eq_true.1 h.2 t (List.mem_range.2 hts)
  rw [ho] at h1
  simp only [Bool.and_eq_true, hg, Bool.or_eq_true, decide_eq_true_eq] at h1
  rcases h1.1.2 with h2 | h2
  · omega
  · exact h2
theorem tailB_waits {n t : Nat} (h : tailB ops n = true) (hts : t < ops.size) (ht : n ≤ t) : ∀ i, i < t → Region.waitsFor .any ops t i = true := by
  intro i hi
  simp only [tailB, Bool.and_eq_true] at h
  have h1 := List.all_eq_true.1 h.2 t (List.mem_range.2 hts)
  simp only [Bool.and_eq_true, Bool.or_eq_true, decide_eq_true_eq] at h1
  rcases h1.2 with h2 | h2
  · omega
  · exact List.all_eq_true.1 h2 i (List.mem_range.2 hi)
theorem tailB_le {n : Nat} (h : tailB ops n = true) : n ≤ ops.size := by
  simp only [tailB, Bool.and_eq_true, decide_eq_true_eq] at h
  exact h.1

theorem listed_false {listed : Array Bool} {i : Nat} (h : listed.getD i true = false) : listed.getD i false = false := by
  rcases Nat.lt_or_ge i listed.size with h' | h'
  · simp [h'] at h ⊢; exact h
  · simp [Array.getElem?_eq_none h'] at h
theorem blank_getD {m i : Nat} (h : i < m) (d : Bool) : (Array.replicate m false).getD i d = false := by
  simp [h]
theorem listed_set_self {listed : Array Bool} {i : Nat} (h : i < listed.size) (d : Bool) : (listed.setIfInBounds i true).getD i d = true := by
  simp [h]

theorem not_ready_of_unlisted {n t i : Nat} {listed : Array Bool} (h : tailB ops n = true) (hts : t < ops.size) (ht : n ≤ t) (hi : i < t) (hl : listed.getD i true = false) : t ∉ Region.ready .any ops listed := by
  intro hr
  obtain ⟨_, o, ho, hall⟩ := mem_ready.1 hr
  obtain ⟨o', ho', e, he, hb, hon⟩ := Region.waitsFor_spec (tailB_waits h hts ht i hi)
  rw [ho] at ho'
  obtain rfl := Option.some.inj ho'
  have := hall e he hb
  rw [hon, listed_false hl] at this
  cases this

theorem any_tail {n : Nat} (h : tailB ops n = true) : ∀ (l : List Oper) (k fuel : Nat) (listed : Array Bool) (a : Act) (w : World), n ≤ k → k + l.length = ops.size → (∀ j, l[j]? = ops[k + j]?) → l.length ≤ fuel → listed.size = ops.size →
    (∀ i, i < k → listed.getD i false = true) → (∀ t, k ≤ t → t < ops.size → listed.getD t true = false) → wpList P ops Q l a w → wpAny P .any ops Q fuel listed a w
  | [], k, fuel, listed, a, w, hn, hk, _, _, hs, hd, _, hw => by
    have hr : Region.ready .any ops listed = [] := by
      apply List.eq_nil_iff_forall_not_mem.2
      intro i hi
      obtain ⟨h0, o, ho, _⟩ := mem_ready.1 hi
      have hil : i < ops.size := (Array.getElem?_eq_some_iff.1 ho).1
      have := hd i (by simp at hk; omega)
      rw [listed_false h0] at this
      cases this
    cases fuel with
    | zero => exact ⟨hr, hw⟩
    | succ f => exact ⟨fun _ => hw, fun i hi => by rw [hr] at hi; cases hi⟩
  | o :: l, k, fuel, listed, a, w, hn, hk, hl, hf, hs, hd, hu, hw => by
    obtain ⟨f, rfl⟩ : ∃ f, fuel = f + 1 := ⟨fuel - 1, by simp at hf; omega⟩
    have hks : k < ops.size := by simp at hk; omega
    have h0 : ops[k]? = some o := by simpa using (hl 0).symm
    have hkr : k ∈ Region.ready .any ops listed := mem_ready.2 ⟨hu k (Nat.le_refl _) hks, o, h0, fun e he hb => hd _ (tailB_edge h h0 e he hb)⟩
    refine ⟨fun hr => (by rw [hr] at hkr; cases hkr), fun i hi => ?_⟩
    have hik : i = k := by
      obtain ⟨h1, o', ho', _⟩ := mem_ready.1 hi
      have hil : i < ops.size := (Array.getElem?_eq_some_iff.1 ho').1
      rcases Nat.lt_trichotomy i k with hlt | heq | hgt
      · have := hd i hlt
        rw [listed_false h1] at this
        cases this
      · exact heq
      · exact absurd hi (not_ready_of_unlisted h hil (by omega) hgt (hu k (Nat.le_refl _) hks))
    subst hik
    have hw' : wpOp P ops Q i (wpList P ops Q l) a w := by unfold wpOp; simp only [h0]; exact hw
    refine wpOp_mono (fun a' w' h' => any_tail h l (i + 1) f _ a' w' (by omega) (by simp at hk; omega) (fun j => by have := hl (j + 1); simpa [Nat.add_assoc, Nat.add_comm 1 j] using this) (by simp at hf; omega) (by simp [hs]) (fun j hj => ?_) (fun t ht hts => ?_) h') hw'
    · by_cases hji : j = i
      · subst hji; exact listed_set_self (by omega) _
      · rw [getD_set_ne false (fun e => hji e.symm)]; exact hd j (by omega)
    · rw [getD_set_ne true (by omega)]; exact hu t (by omega) hts

theorem wanted_head {n : Nat} {H : Array Oper} (hH : ∀ j, j < n → H[j]? = ops[j]?) {o : Oper} (hg : ∀ g b, o.guard = some (g, b) → g < n) (tmps : Array Value) : Region.wanted o (yielded H tmps) = Region.wanted o (yielded ops tmps) := by
  unfold Region.wanted
  cases hc : o.guard with
  | none => rfl
  | some x =>
    obtain ⟨g, b⟩ := x
    simp only [yielded, hH g (hg g b hc)]

theorem any_head {n : Nat} {H : Array Oper} (h : tailB ops n = true) (hHs : H.size = n) (hH : ∀ j, j < n → H[j]? = ops[j]?) (tail : List Oper) (ht : tail = ops.toList.drop n) :
    ∀ (f : Nat) (lh listed : Array Bool) (a : Act) (w : World), listed.size = ops.size → lh.size = n → (∀ i d, i < n → lh.getD i d = listed.getD i d) → (∀ t, n ≤ t → t < ops.size → listed.getD t true = false) → C w →
      wpAnyQ P .any H C (fun a' => ∀ w', C w' → wpList P ops Q tail a' w') f lh a → wpAny P .any ops Q (f + (ops.size - n)) listed a w := by
  have hnle := tailB_le h
  have all_listed : ∀ (lh listed : Array Bool), lh.size = n → (∀ i d, i < n → lh.getD i d = listed.getD i d) → Region.ready .any H lh = [] → ∀ i, i < n → listed.getD i false = true := by
    intro lh listed hls hlh hr i
    induction i using Nat.strongRecOn with
    | _ i ih =>
      intro hi
      cases hc : listed.getD i false with
      | true => rfl
      | false =>
        exfalso
        have h1 : lh.getD i true = false := by
          have h2 : lh.getD i false = false := by rw [hlh i false hi]; exact hc
          simp [hls, hi] at h2 ⊢; exact h2
        have hio : i < ops.size := by omega
        have : i ∈ Region.ready .any H lh := mem_ready.2 ⟨h1, ops[i], by rw [hH i hi]; simp [hio], fun e he hb => by
          have hlt := tailB_edge h (show ops[i]? = some ops[i] by simp [hio]) e he hb
          rw [hlh _ _ (by omega)]
          exact ih _ hlt (by omega)⟩
        rw [hr] at this
        cases this
  have done : ∀ (f : Nat) (lh listed : Array Bool) (a : Act) (w : World), listed.size = ops.size → lh.size = n → (∀ i d, i < n → lh.getD i d = listed.getD i d) → (∀ t, n ≤ t → t < ops.size → listed.getD t true = false) →
      Region.ready .any H lh = [] → wpList P ops Q tail a w → wpAny P .any ops Q (f + (ops.size - n)) listed a w := by
    intro f lh listed a w hs hls hlh hu hr hw
    have hlen : tail.length = ops.size - n := by rw [ht]; simp
    exact any_tail h tail n _ listed a w (Nat.le_refl _) (by omega) (fun j => by rw [ht]; simp [List.getElem?_drop]) (by omega) hs (all_listed lh listed hls hlh hr) hu hw
  intro f
  induction f with
  | zero =>
    intro lh listed a w hs hls hlh hu hC hq
    exact done 0 lh listed a w hs hls hlh hu hq.1 (hq.2 w hC)
  | succ f ih =>
    intro lh listed a w hs hls hlh hu hC hq
    by_cases hr : Region.ready .any H lh = []
    · exact done (f + 1) lh listed a w hs hls hlh hu hr (hq.1 hr w hC)
    · obtain ⟨j, hj⟩ := List.exists_mem_of_ne_nil _ hr
      have back : ∀ i, i ∈ Region.ready .any H lh → i < n ∧ i ∈ Region.ready .any ops listed := by
        intro i hi
        obtain ⟨h0, o, ho, hall⟩ := mem_ready.1 hi
        have hin : i < n := by have := (Array.getElem?_eq_some_iff.1 ho).1; omega
        rw [hH i hin] at ho
        exact ⟨hin, mem_ready.2 ⟨by rw [← hlh i true hin]; exact h0, o, ho, fun e he hb => by
          have := tailB_edge h ho e he hb
          rw [← hlh _ _ (by omega)]; exact hall e he hb⟩⟩
      obtain ⟨hjn, hjr⟩ := back j hj
      have hjun := (mem_ready.1 hjr).1
      rw [show f + 1 + (ops.size - n) = (f + (ops.size - n)) + 1 by omega]
      refine ⟨fun he => (by rw [he] at hjr; cases hjr), fun i hi => ?_⟩
      obtain ⟨h0, o, ho, hall⟩ := mem_ready.1 hi
      have hio : i < ops.size := (Array.getElem?_eq_some_iff.1 ho).1
      have hin : i < n := by
        rcases Nat.lt_or_ge i n with hlt | hge
        · exact hlt
        · exact absurd hi (not_ready_of_unlisted h hio hge (by omega) hjun)
      have hih : i ∈ Region.ready .any H lh := mem_ready.2 ⟨by rw [hlh i true hin]; exact h0, o, by rw [hH i hin]; exact ho, fun e he hb => by
        have := tailB_edge h ho e he hb
        rw [hlh _ _ (by omega)]; exact hall e he hb⟩
      have hq' := hq.2 i hih
      have hg := tailB_guard h ho hin
      unfold qOp at hq'
      rw [hH i hin, ho] at hq'
      simp only [wanted_head hH hg] at hq'
      unfold wpOp
      rw [ho]
      simp only
      have next : ∀ a' w', C w' → wpAnyQ P .any H C (fun a' => ∀ w', C w' → wpList P ops Q tail a' w') f (lh.setIfInBounds i true) a' → wpAny P .any ops Q (f + (ops.size - n)) (listed.setIfInBounds i true) a' w' := by
        intro a' w' hC' hq''
        refine ih _ _ a' w' (by simp [hs]) (by simp [hls]) (fun j d hj => ?_) (fun t ht hts => ?_) hC' hq''
        · by_cases hji : i = j
          · subst hji; rw [listed_set_self (by omega), listed_set_self (by omega)]
          · rw [getD_set_ne d hji, getD_set_ne d hji]; exact hlh j d hj
        · rw [getD_set_ne true (by omega)]; exact hu t ht hts
      split
      · rename_i hwant
        rw [if_pos hwant] at hq'
        exact .inl (Oper.wp_of_quiet hC next hq')
      · rename_i hwant
        rw [if_neg hwant] at hq'
        exact next _ _ hC hq'

/-- THE LAW: 'l.take n' walked quietly in the text's order, then 'l.drop n' one by one, in every world of the class. -/
theorem wp_region_class_tail {id : Nat} {a : Act} {w : World} {l : List Oper} (n : Nat) (hm : P.follows .mixedOrders = true) (hB : Region.lexB .any (l.take n).toArray = true) (hT : tailB l.toArray n = true) (hC : C { w with drawn := w.drawn + 1 })
    (h : wpQuiet P (l.take n).toArray C (fun a' => ∀ w', C w' → wpList P l.toArray Q (l.drop n) a' w') (l.take n) a) : (Code.region id l.toArray true).wp P Q a w := by
  have hn : n ≤ l.length := by have := tailB_le hT; simpa using this
  simp only [Region.lexB, Bool.and_eq_true] at hB
  have hsz : ((l.take n).toArray).size = n := by simp; omega
  refine wp_region_any hm ?_
  have hq := wpAnyQ_lex (C := C) (md := .any) hB.1 (l.take n) 0 (Array.replicate (l.take n).toArray.size false) a (by simp) (by simpa using hB.2) h
  have := any_head (C := C) (Q := Q) hT hsz (fun j hj => by simp [hj]) (l.drop n) (by simp) _ _ (Array.replicate l.toArray.size false) a { w with drawn := w.drawn + 1 } (by simp) (by simp; omega) (fun i d hi => (blank_getD (by omega) d).trans (blank_getD (by simp; omega) d).symm) (fun t _ ht => blank_getD (by simpa using ht) true) hC hq
  have e : (l.take n).length + (l.toArray.size - n) = l.toArray.size := by simp; omega
  rw [e] at this
  exact this
end
/-- A world in which all that was there in W is as it was. -/
structure Lat (W : World) where
  w : World
  h : Go.RowKit.Below W.heap.size W w
instance latNonempty (W : World) : Nonempty (Lat W) := ⟨⟨W, Go.RowKit.Below.refl _ _⟩⟩
theorem Lat.drawn {W w : World} (h : Go.RowKit.Below W.heap.size W w) : ∃ i : Lat W, { w with drawn := w.drawn + 1 } = i.w := ⟨⟨{ w with drawn := w.drawn + 1 }, ⟨h.os, h.tape, h.output, h.size, h.block⟩⟩, rfl⟩
section
variable {P : Program} {Q : Exit → Act → World → Prop}
theorem wp_region_lat {id : Nat} {a : Act} {W w : World} {l : List Oper} (hm : P.follows .mixedOrders = true) (hB : Region.lexB .any l.toArray = true) (hw : Go.RowKit.Below W.heap.size W w)
    (h : wpQuiet P l.toArray (fun w' => ∃ i : Lat W, w' = i.w) (fun a' => ∀ w', (∃ i : Lat W, w' = i.w) → Q .normal a' w') l a) : (Code.region id l.toArray true).wp P Q a w :=
  wp_region_quiet (C := fun w' => ∃ i : Lat W, w' = i.w) hm hB (Lat.drawn hw) (by simpa using h)
theorem wp_region_lat_tail {id : Nat} {a : Act} {W w : World} {l : List Oper} (n : Nat) (hm : P.follows .mixedOrders = true) (hB : Region.lexB .any (l.take n).toArray = true) (hT : tailB l.toArray n = true) (hw : Go.RowKit.Below W.heap.size W w)
    (h : wpQuiet P (l.take n).toArray (fun w' => ∃ i : Lat W, w' = i.w) (fun a' => ∀ w', (∃ i : Lat W, w' = i.w) → wpList P l.toArray Q (l.drop n) a' w') (l.take n) a) : (Code.region id l.toArray true).wp P Q a w :=
  wp_region_class_tail (C := fun w' => ∃ i : Lat W, w' = i.w) n hm hB hT (Lat.drawn hw) h
end
/-- A callee that leaves all that was there as it was, called in such a world. -/
theorem Lat.call {P : Program} {f : FuncId} {args : Array Value} {W : World} {i : Lat W} {v : Value}
    (h : Calls P f args i.w fun e w' => e = .returned v ∧ Go.RowKit.Below i.w.heap.size i.w w') : Calls P f args i.w fun e w'' => e = .returned v ∧ ∃ j : Lat W, w'' = j.w :=
  h.mono fun _ _ ⟨he, hb⟩ => ⟨he, ⟨_, i.h.trans (hb.mono i.h.size)⟩, rfl⟩
end Go.Proofs.YtmphnoabkmoafaaGreatDoor
