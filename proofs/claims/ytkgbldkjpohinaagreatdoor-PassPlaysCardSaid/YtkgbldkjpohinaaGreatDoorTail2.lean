/- The law of the text 'Tail' once more, where the tail need not wait for each of the first n itself, and where a leading copy may come late. -/
import Derived.BigQuiet
import Derived.Test.YtkgbldkjpohinaaGreatDoorTail
namespace Go.Proofs.YtkgbldkjpohinaaGreatDoor
section
variable {P : Program} {ops : Array Oper} {C : World → Prop} {Q : Exit → Act → World → Prop}

/-- Each operation waits for earlier ones alone; a guard of one of the first n is one of them; each of the first n but the first m is waited for by a later one up to n; each behind n waits for the one ahead of it. -/
def tailM (ops : Array Oper) (m n : Nat) : Bool :=
  decide (n < ops.size) && ((List.range ops.size).all fun t =>
    match ops[t]? with
     | some o => o.after.all (fun e => !Region.binds .any e || decide (e.on < t)) && (match o.guard with | some (g, _) => decide (n ≤ t) || decide (g < n) | none => true)
     | none => true) &&
  ((List.range n).all fun i => decide (i < m) || (List.range (n + 1)).any fun j => decide (i < j) && Region.waitsFor .any ops j i) &&
  Region.chainB .any ops n

variable {m n : Nat}
theorem tailM_edge (h : tailM ops m n = true) {t : Nat} {o : Oper} (ho : ops[t]? = some o) : ∀ e ∈ o.after, Region.binds .any e = true → e.on < t := by
  intro e he hb
  have ht : t < ops.size := (Array.getElem?_eq_some_iff.1 ho).1
  simp only [tailM, Bool.and_eq_true] at h
  have h1 := List.all_eq_true.1 h.1.1.2 t (List.mem_range.2 ht)
  rw [ho] at h1
  simp only [Bool.and_eq_true] at h1
  have h2 := Array.all_eq_true_iff_forall_mem.1 h1.1 e he
  simpa [hb] using h2
theorem tailM_guard (h : tailM ops m n = true) {t : Nat} {o : Oper} (ho : ops[t]? = some o) (ht : t < n) : ∀ g b, o.guard = some (g, b) → g < n := by
  intro g b hg
  have hts : t < ops.size := (Array.getElem?_eq_some_iff.1 ho).1
  simp only [tailM, Bool.and_eq_true] at h
  have h1 := List.all_eq_true.1 h.1.1.2 t (List.mem_range.2 hts)
  rw [ho] at h1
  simp only [Bool.and_eq_true, hg, Bool.or_eq_true, decide_eq_true_eq] at h1
  rcases h1.2 with h2 | h2
  · omega
  · exact h2
theorem tailM_lt (h : tailM ops m n = true) : n < ops.size := by
  simp only [tailM, Bool.and_eq_true, decide_eq_true_eq] at h
  exact h.1.1.1
theorem tailM_sink (h : tailM ops m n = true) {i : Nat} (hm : m ≤ i) (hi : i < n) : ∃ j, i < j ∧ j ≤ n ∧ Region.waitsFor .any ops j i = true := by
  simp only [tailM, Bool.and_eq_true] at h
  have h1 := List.all_eq_true.1 h.1.2 i (List.mem_range.2 hi)
  simp only [Bool.or_eq_true, decide_eq_true_eq] at h1
  rcases h1 with h1 | h1
  · omega
  · obtain ⟨j, hj, hj2⟩ := List.any_eq_true.1 h1
    simp only [Bool.and_eq_true, decide_eq_true_eq] at hj2
    exact ⟨j, hj2.1, by have := List.mem_range.1 hj; omega, hj2.2⟩
theorem tailM_chain (h : tailM ops m n = true) {t : Nat} (ht : n < t) (hts : t < ops.size) : Region.waitsFor .any ops t (t - 1) = true := by
  simp only [tailM, Bool.and_eq_true] at h
  have h1 := List.all_eq_true.1 h.2 t (List.mem_range.2 hts)
  simp only [Bool.or_eq_true, decide_eq_true_eq] at h1
  rcases h1 with h1 | h1
  · omega
  · exact h1

def ClosedL (ops : Array Oper) (listed : Array Bool) : Prop := ∀ j oj, ops[j]? = some oj → listed.getD j false = true → ∀ e ∈ oj.after, Region.binds .any e = true → listed.getD e.on false = true
theorem ClosedL.set {listed : Array Bool} (hc : ClosedL ops listed) {i : Nat} (hi : i ∈ Region.ready .any ops listed) : ClosedL ops (listed.setIfInBounds i true) := by
  obtain ⟨_, oi, hoi, hall⟩ := mem_ready.1 hi
  intro j oj hj hl e he hb
  by_cases hij : i = j
  · subst hij
    obtain rfl : oj = oi := Option.some.inj (hj.symm.trans hoi)
    exact getD_set_true (hall e he hb)
  · rw [getD_set_ne false hij] at hl
    exact getD_set_true (hc j oj hj hl e he hb)

theorem not_ready_dep {listed : Array Bool} {t i : Nat} (hw : Region.waitsFor .any ops t i = true) (hl : listed.getD i true = false) : t ∉ Region.ready .any ops listed := by
  intro hr
  obtain ⟨_, o, ho, hall⟩ := mem_ready.1 hr
  obtain ⟨o', ho', e, he, hb, hon⟩ := Region.waitsFor_spec hw
  rw [ho] at ho'
  obtain rfl := Option.some.inj ho'
  have := hall e he hb
  rw [hon, listed_false hl] at this
  cases this

theorem head_blocks (h : tailM ops m n = true) {listed : Array Bool} (hls : listed.size = ops.size) (hc : ClosedL ops listed) : ∀ (d i : Nat), n - i = d → m ≤ i → i < n → listed.getD i true = false → n ∉ Region.ready .any ops listed := by
  intro d
  induction d using Nat.strongRecOn with
  | _ d ih =>
    intro i hd hm hi hun
    obtain ⟨j, hij, hjn, hw⟩ := tailM_sink h hm hi
    by_cases hjn' : j = n
    · subst hjn'; exact not_ready_dep hw hun
    · have hjl : listed.getD j true = false := by
        cases hl : listed.getD j false with
        | true =>
          obtain ⟨oj, hoj, e, he, hb, hon⟩ := Region.waitsFor_spec hw
          have := hc j oj hoj hl e he hb
          rw [hon, listed_false hun] at this
          cases this
        | false =>
          have hjs : j < listed.size := by have := tailM_lt h; omega
          simp [hjs] at hl ⊢; exact hl
      exact ih (n - j) (by omega) j rfl (by omega) (by omega) hjl

theorem tail_not_ready (h : tailM ops m n = true) {listed : Array Bool} (hu : ∀ t, n ≤ t → t < ops.size → listed.getD t true = false) {t : Nat} (ht : n < t) : t ∉ Region.ready .any ops listed := by
  intro hr
  obtain ⟨_, o, ho, _⟩ := mem_ready.1 hr
  have hts : t < ops.size := (Array.getElem?_eq_some_iff.1 ho).1
  exact not_ready_dep (tailM_chain h ht hts) (hu (t - 1) (by omega) (by omega)) hr

theorem any_tailM (h : tailM ops m n = true) : ∀ (l : List Oper) (k fuel : Nat) (listed : Array Bool) (a : Act) (w : World), n ≤ k → k + l.length = ops.size → (∀ j, l[j]? = ops[k + j]?) → l.length ≤ fuel → listed.size = ops.size →
    (∀ i, i < k → listed.getD i false = true) → (∀ t, k ≤ t → t < ops.size → listed.getD t true = false) → wpList P ops Q l a w → wpAny P .any ops Q fuel listed a w
  | [], k, fuel, listed, a, w, hn, hk, _, _, hs, hd, _, hw => by
    have hr : Region.ready .any ops listed = [] := by
      apply List.eq_nil_iff_forall_not_mem.2
      intro i hi
      obtain ⟨h0, o, ho, _⟩ := mem_ready.1 hi
      have hil : i < ops.size := (Array.getElem?_eq_some_iff.1 ho).1
      have := hd i (by simp at hk; omega)
      rw [listed_false h0] at this
      cases this
    exact wpAny_done hr hw fuel
  | o :: l, k, fuel, listed, a, w, hn, hk, hl, hf, hs, hd, hu, hw => by
    obtain ⟨f, rfl⟩ : ∃ f, fuel = f + 1 := ⟨fuel - 1, by simp at hf; omega⟩
    have hks : k < ops.size := by simp at hk; omega
    have h0 : ops[k]? = some o := by simpa using (hl 0).symm
    have hkr : k ∈ Region.ready .any ops listed := mem_ready.2 ⟨hu k (Nat.le_refl _) hks, o, h0, fun e he hb => hd _ (tailM_edge h h0 e he hb)⟩
    refine ⟨fun hr => (by rw [hr] at hkr; cases hkr), fun i hi => ?_⟩
    have hik : i = k := by
      obtain ⟨h1, o', ho', _⟩ := mem_ready.1 hi
      have hil : i < ops.size := (Array.getElem?_eq_some_iff.1 ho').1
      rcases Nat.lt_trichotomy i k with hlt | heq | hgt
      · have := hd i hlt
        rw [listed_false h1] at this
        cases this
      · exact heq
      · exact absurd hi (not_ready_dep (tailM_chain h (by omega) hil) (hu (i - 1) (by omega) (by omega)))
    subst hik
    have hw' : wpOp P ops Q i (wpList P ops Q l) a w := by unfold wpOp; simp only [h0]; exact hw
    refine wpOp_mono (fun a' w' h' => any_tailM h l (i + 1) f _ a' w' (by omega) (by simp at hk; omega) (fun j => by have := hl (j + 1); simpa [Nat.add_assoc, Nat.add_comm 1 j] using this) (by simp at hf; omega) (by simp [hs]) (fun j hj => ?_) (fun t ht hts => ?_) h') hw'
    · by_cases hji : j = i
      · subst hji; exact listed_set_self (by omega) _
      · rw [getD_set_ne false (fun e => hji e.symm)]; exact hd j (by omega)
    · rw [getD_set_ne true (by omega)]; exact hu t (by omega) hts

theorem any_headM {H : Array Oper} (h : tailM ops m n = true) (hHs : H.size = n) (hH : ∀ j, j < n → H[j]? = ops[j]?) (tail : List Oper) (ht : tail = ops.toList.drop n) :
    ∀ (f : Nat) (lh listed : Array Bool) (a : Act) (w : World), listed.size = ops.size → lh.size = n → (∀ i d, i < n → lh.getD i d = listed.getD i d) → (∀ t, n ≤ t → t < ops.size → listed.getD t true = false) → ClosedL ops listed → (∀ i, i < m → i < n → listed.getD i false = true) → C w →
      wpAnyQ P .any H C (fun a' => ∀ w', C w' → wpList P ops Q tail a' w') f lh a → wpAny P .any ops Q (f + (ops.size - n)) listed a w := by
  have hnle := tailM_lt h
  have all_listed : ∀ (lh listed : Array Bool), lh.size = n → (∀ i d, i < n → lh.getD i d = listed.getD i d) → Region.ready .any H lh = [] → ∀ i, i < n → listed.getD i false = true := by
    intro lh listed hls hlh hr i
    induction i using Nat.strongRecOn with
    | _ i ih =>
      intro hi
      cases hc : listed.getD i false with
      | true => rfl
      | false =>
        exfalso
        have h1 : lh.getD i true = false := by
          have h2 : lh.getD i false = false := by rw [hlh i false hi]; exact hc
          simp [hls, hi] at h2 ⊢; exact h2
        have hio : i < ops.size := by omega
        have : i ∈ Region.ready .any H lh := mem_ready.2 ⟨h1, ops[i], by rw [hH i hi]; simp [hio], fun e he hb => by
          have hlt := tailM_edge h (show ops[i]? = some ops[i] by simp [hio]) e he hb
          rw [hlh _ _ (by omega)]
          exact ih _ hlt (by omega)⟩
        rw [hr] at this
        cases this
  have done : ∀ (f : Nat) (lh listed : Array Bool) (a : Act) (w : World), listed.size = ops.size → lh.size = n → (∀ i d, i < n → lh.getD i d = listed.getD i d) → (∀ t, n ≤ t → t < ops.size → listed.getD t true = false) →
      Region.ready .any H lh = [] → wpList P ops Q tail a w → wpAny P .any ops Q (f + (ops.size - n)) listed a w := by
    intro f lh listed a w hs hls hlh hu hr hw
    have hlen : tail.length = ops.size - n := by rw [ht]; simp
    exact any_tailM h tail n _ listed a w (Nat.le_refl _) (by omega) (fun j => by rw [ht]; simp [List.getElem?_drop]) (by omega) hs (all_listed lh listed hls hlh hr) hu hw
  intro f
  induction f with
  | zero =>
    intro lh listed a w hs hls hlh hu _ _ hC hq
    exact done 0 lh listed a w hs hls hlh hu hq.1 (hq.2 w hC)
  | succ f ih =>
    intro lh listed a w hs hls hlh hu hcl hmm hC hq
    by_cases hr : Region.ready .any H lh = []
    · exact done (f + 1) lh listed a w hs hls hlh hu hr (hq.1 hr w hC)
    · obtain ⟨j, hj⟩ := List.exists_mem_of_ne_nil _ hr
      have back : ∀ i, i ∈ Region.ready .any H lh → i < n ∧ i ∈ Region.ready .any ops listed := by
        intro i hi
        obtain ⟨h0, o, ho, hall⟩ := mem_ready.1 hi
        have hin : i < n := by have := (Array.getElem?_eq_some_iff.1 ho).1; omega
        rw [hH i hin] at ho
        exact ⟨hin, mem_ready.2 ⟨by rw [← hlh i true hin]; exact h0, o, ho, fun e he hb => by
          have := tailM_edge h ho e he hb
          rw [← hlh _ _ (by omega)]; exact hall e he hb⟩⟩
      obtain ⟨hjn, hjr⟩ := back j hj
      have hjun := (mem_ready.1 hjr).1
      have hjm : m ≤ j := by
        rcases Nat.lt_or_ge j m with hlt | hge
        · have := hmm j hlt hjn
          rw [listed_false hjun] at this
          cases this
        · exact hge
      rw [show f + 1 + (ops.size - n) = (f + (ops.size - n)) + 1 by omega]
      refine ⟨fun he => (by rw [he] at hjr; cases hjr), fun i hi => ?_⟩
      obtain ⟨h0, o, ho, hall⟩ := mem_ready.1 hi
      have hio : i < ops.size := (Array.getElem?_eq_some_iff.1 ho).1
      have hin : i < n := by
        rcases Nat.lt_trichotomy i n with hlt | heq | hgt
        · exact hlt
        · subst heq; exact absurd hi (head_blocks h hs hcl _ j rfl hjm hjn hjun)
        · exact absurd hi (tail_not_ready h hu hgt)
      have hih : i ∈ Region.ready .any H lh := mem_ready.2 ⟨by rw [hlh i true hin]; exact h0, o, by rw [hH i hin]; exact ho, fun e he hb => by
        have := tailM_edge h ho e he hb
        rw [hlh _ _ (by omega)]; exact hall e he hb⟩
      have hq' := hq.2 i hih
      have hg := tailM_guard h ho hin
      unfold qOp at hq'
      rw [hH i hin, ho] at hq'
      simp only [wanted_head hH hg] at hq'
      unfold wpOp
      rw [ho]
      simp only
      have next : ∀ a' w', C w' → wpAnyQ P .any H C (fun a' => ∀ w', C w' → wpList P ops Q tail a' w') f (lh.setIfInBounds i true) a' → wpAny P .any ops Q (f + (ops.size - n)) (listed.setIfInBounds i true) a' w' := by
        intro a' w' hC' hq''
        refine ih _ _ a' w' (by simp [hs]) (by simp [hls]) (fun j d hj => ?_) (fun t ht hts => ?_) (hcl.set hi) (fun j hj hj2 => getD_set_true (hmm j hj hj2)) hC' hq''
        · by_cases hji : i = j
          · subst hji; rw [listed_set_self (by omega), listed_set_self (by omega)]
          · rw [getD_set_ne d hji, getD_set_ne d hji]; exact hlh j d hj
        · rw [getD_set_ne true (by omega)]; exact hu t ht hts
      split
      · rename_i hwant
        rw [if_pos hwant] at hq'
        exact .inl (Oper.wp_of_quiet hC next hq')
      · rename_i hwant
        rw [if_neg hwant] at hq'
        exact next _ _ hC hq'

/-- THE LAW. -/
theorem wp_region_quiet_sink {id : Nat} {a : Act} {w : World} {l : List Oper} (n : Nat) (hm : P.follows .mixedOrders = true) (hB : Region.lexB .any (l.take n).toArray = true) (hT : tailM l.toArray 0 n = true)
    (h : wpQuiet P (l.take n).toArray (fun w' => ∃ k, w' = w.drewN k) (fun a' => ∀ w', (∃ k, w' = w.drewN k) → wpList P l.toArray Q (l.drop n) a' w') (l.take n) a) : (Code.region id l.toArray true).wp P Q a w := by
  have hn : n < l.length := by have := tailM_lt hT; simpa using this
  simp only [Region.lexB, Bool.and_eq_true] at hB
  have hsz : ((l.take n).toArray).size = n := by simp; omega
  refine wp_region_any hm ?_
  have hq := wpAnyQ_lex (C := fun w' => ∃ k, w' = w.drewN k) (md := .any) hB.1 (l.take n) 0 (Array.replicate (l.take n).toArray.size false) a (by simp) (by simpa using hB.2) h
  have := any_headM (C := fun w' => ∃ k, w' = w.drewN k) (Q := Q) hT hsz (fun j hj => by simp [hj]) (l.drop n) (by simp) _ _ (Array.replicate l.toArray.size false) a { w with drawn := w.drawn + 1 } (by simp) (by simp; omega) (fun i d hi => (blank_getD (by omega) d).trans (blank_getD (by simp; omega) d).symm) (fun t _ ht => blank_getD ht true)
    (fun j oj hj hl => by rw [getD_replicate_false] at hl; cases hl) (fun i hi => by omega) ⟨1, rfl⟩ hq
  have e : (l.take n).length + (l.toArray.size - n) = l.toArray.size := by simp; omega
  rw [e] at this
  exact this

/-- THE LAW, the first operation a copy that may come late. -/
theorem wp_region_move_quiet_sink {id : Nat} {a : Act} {w : World} {o0 : Oper} {l : List Oper} (n : Nat) (x : Operand) (ho0 : o0.op = .move x) (hg0 : o0.guard = none) (hm : P.follows .mixedOrders = true) (hsel : Region.noSelect (o0 :: l).toArray = true)
    (hfree : Region.free .any (o0 :: l).toArray (Array.replicate (l.length + 1) false) 0 = true)
    (hselH : Region.noSelect ((o0 :: l).take (n + 1)).toArray = true) (hB : Region.lexFrom .any ((o0 :: l).take (n + 1)).toArray n 1 ((Array.replicate (n + 1) false).setIfInBounds 0 true) = true) (hT : tailM (o0 :: l).toArray 1 (n + 1) = true)
    (hQ' : ∀ c (a : Act) (v : Value) w, Q (.panic c) (a.put o0.dst v) w → Q (.panic c) a w)
    (h : wpQuiet P ((o0 :: l).take (n + 1)).toArray (fun w' => ∃ k, w' = w.drewN k) (fun a' => ∀ w', (∃ k, w' = w.drewN k) → wpList P (o0 :: l).toArray Q (l.drop n) a' w') (l.take n) (a.put o0.dst (a.eval x))) : (Code.region id (o0 :: l).toArray true).wp P Q a w := by
  have hn : n < l.length := by have := tailM_lt hT; simpa using this
  have hsz : (((o0 :: l).take (n + 1)).toArray).size = n + 1 := by simp; omega
  refine wp_region_any hm ?_
  have hr0 : 0 ∈ Region.ready .any (o0 :: l).toArray (Array.replicate (l.length + 1) false) := mem_ready.2 ⟨by simp, o0, rfl, fun e he hb => by
    have := tailM_edge hT (t := 0) (o := o0) rfl e he hb
    omega⟩
  rw [show (o0 :: l).toArray.size = l.length + 1 by simp]
  refine wpAny_take (i := 0) (oi := o0) (v := a.eval x) rfl hsel hfree (by simpa using hr0) (fun c a' w' hh => hQ' c a' _ w' hh) (Or.inl ⟨by simp [Region.wanted, hg0], fun w => BigFrame.run_move x ho0 w⟩) ?_
  have hq := wpAnyQ_lex (C := fun w' => ∃ k, w' = w.drewN k) (md := .any) (ops := ((o0 :: l).take (n + 1)).toArray) hselH (l.take n) 1 ((Array.replicate (n + 1) false).setIfInBounds 0 true) (a.put o0.dst (a.eval x)) (fun j => by simp [Nat.add_comm 1 j]) (by rw [show (l.take n).length = n by simp; omega]; exact hB) h
  have := any_headM (C := fun w' => ∃ k, w' = w.drewN k) (Q := Q) hT hsz (fun j hj => by rw [List.getElem?_toArray, List.getElem?_toArray, List.getElem?_take_of_lt hj]) (l.drop n) (by simp) _ _ ((Array.replicate (l.length + 1) false).setIfInBounds 0 true) (a.put o0.dst (a.eval x)) { w with drawn := w.drawn + 1 } (by simp) (by simp) (fun i d hi => by
      by_cases h0 : 0 = i
      · subst h0; rw [listed_set_self (by simp), listed_set_self (by simp)]
      · rw [getD_set_ne d h0, getD_set_ne d h0]; exact (blank_getD (by omega) d).trans (blank_getD (by omega) d).symm) (fun t ht hts => by rw [getD_set_ne true (by omega)]; exact blank_getD (by simpa using hts) true)
    (ClosedL.set (fun j oj hj hl => by rw [getD_replicate_false] at hl; cases hl) hr0) (fun i hi _ => by obtain rfl : i = 0 := (by omega); exact listed_set_self (by simp) _) ⟨1, rfl⟩ hq
  have e : (l.take n).length + ((o0 :: l).toArray.size - (n + 1)) = l.length := by simp; omega
  rw [e] at this
  exact this
end
end Go.Proofs.YtkgbldkjpohinaaGreatDoor
