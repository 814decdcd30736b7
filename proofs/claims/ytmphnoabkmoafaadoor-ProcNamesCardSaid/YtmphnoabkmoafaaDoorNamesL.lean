/- ProcNames in plain words: how a name reads as a number, and that no number is told twice. -/
import Derived.Test.YtmphnoabkmoafaaDoorSharesL
import Derived.Test.YtmphnoabkmoafaaDoorShake
namespace Go.Proofs.YtmphnoabkmoafaaDoor
open Go.RowKit Go.Maps
set_option linter.unusedVariables false
def numL (l : List UInt8) : Nat := l.foldl (fun a c => if c.toNat = 46 then a else 10 * a + (c.toNat - 48)) 0
/-- A process's name, and the number that its digits are. -/
inductive Nm : List UInt8 → Nat → Prop
  | one {c : UInt8} (h1 : 49 ≤ c.toNat) (h2 : c.toNat ≤ 57) : Nm [c] (c.toNat - 48)
  | more {l : List UInt8} {n : Nat} {c : UInt8} (h : Nm l n) (h1 : 49 ≤ c.toNat) (h2 : c.toNat ≤ 57) : Nm (l ++ [46, c]) (10 * n + (c.toNat - 48))
theorem Nm.pos {l : List UInt8} {n : Nat} (h : Nm l n) : 1 ≤ n := by
  cases h <;> omega
theorem Nm.inj {l : List UInt8} {n : Nat} (h : Nm l n) : ∀ {l' : List UInt8} {n' : Nat}, Nm l' n' → n = n' → l = l' := by
  induction h with
  | @one c h1 h2 =>
    intro l' n' h' e
    cases h' with
    | @one c' h3 h4 => rw [UInt8.toNat_inj.1 (show c.toNat = c'.toNat by omega)]
    | more h3 h4 h5 => have := h3.pos; omega
  | @more l n c h h1 h2 ih =>
    intro l' n' h' e
    cases h' with
    | one h3 h4 => have := h.pos; omega
    | @more l' n' c' h3 h4 h5 => rw [ih h3 (by omega), UInt8.toNat_inj.1 (show c.toNat = c'.toNat by omega)]
theorem Nm.num {l : List UInt8} {n : Nat} (h : Nm l n) : numL l = n := by
  induction h with
  | one h1 h2 =>
    show (if _ then _ else _) = _
    rw [if_neg (by omega)]
    omega
  | more h h1 h2 ih =>
    unfold numL at *
    rw [List.foldl_append, ih]
    rw [List.foldl_cons, List.foldl_cons, List.foldl_nil, if_pos (show (46 : UInt8).toNat = 46 from rfl), if_neg (by omega)]
theorem Nm.odd {l : List UInt8} {n : Nat} (h : Nm l n) : l.length % 2 = 1 := by
  induction h with
  | one h1 h2 => rfl
  | more h h1 h2 ih => simp; omega
theorem Nm.at {l : List UInt8} {n : Nat} (h : Nm l n) : ∀ (i : Nat) (hi : i < l.length), (i % 2 = 1 → (l[i]).toNat = 46) ∧ (i % 2 = 0 → 49 ≤ (l[i]).toNat ∧ (l[i]).toNat ≤ 57) := by
  induction h with
  | one h1 h2 =>
    intro i hi
    obtain rfl : i = 0 := by simpa using hi
    exact ⟨fun e => by omega, fun _ => ⟨h1, h2⟩⟩
  | @more l n c h h1 h2 ih =>
    intro i hi
    have ho := h.odd
    rw [List.length_append] at hi
    simp only [List.length_cons, List.length_nil] at hi
    by_cases hl : i < l.length
    · rw [List.getElem_append_left hl]
      exact ih i hl
    · rw [List.getElem_append_right (by omega)]
      rcases (show i = l.length ∨ i = l.length + 1 by omega) with e | e
      · subst e
        simp only [Nat.sub_self, List.getElem_cons_zero]
        exact ⟨fun _ => rfl, fun e => by omega⟩
      · subst e
        simp only [Nat.add_sub_cancel_left, List.getElem_cons_succ, List.getElem_cons_zero]
        exact ⟨fun e => by omega, fun _ => ⟨h1, h2⟩⟩
theorem numTo_take (s : ByteArray) : ∀ k, numTo s k = numL (s.data.toList.take k)
  | 0 => rfl
  | k + 1 => by
    have ih := numTo_take s k
    unfold numTo
    by_cases h : k < s.size
    · have hl : k < s.data.toList.length := by rw [size_list]; exact h
      have e : s[k]'h = s.data.toList[k]'hl := by rw [ByteArray.getElem_eq_getElem_data]; simp
      rw [dif_pos h, List.take_succ_eq_append_getElem hl]
      unfold numL at *
      rw [List.foldl_append, ← ih, e]
      rfl
    · rw [dif_neg h, ih, List.take_of_length_le (by rw [size_list]; omega), List.take_of_length_le (by rw [size_list]; omega)]
theorem numTo_all (s : ByteArray) (k : Nat) (hk : s.size ≤ k) : numTo s k = numL s.data.toList := by
  rw [numTo_take, List.take_of_length_le (by rw [size_list]; exact hk)]
/-- The law's own reckoning, every second byte. -/
theorem numTo_step {s : ByteArray} {n : Nat} (h : Nm s.data.toList n) (k : Nat) (hk : 2 * k < s.size) :
    ∃ c : UInt8, s[2 * k]'hk = c ∧ 49 ≤ c.toNat ∧ c.toNat ≤ 57 ∧ numTo s (2 * (k + 1)) = 10 * numTo s (2 * k) + (c.toNat - 48) := by
  have hl : 2 * k < s.data.toList.length := by rw [size_list]; exact hk
  have e : s[2 * k]'hk = s.data.toList[2 * k]'hl := by rw [ByteArray.getElem_eq_getElem_data]; simp
  obtain ⟨h1, h2⟩ := (h.at (2 * k) hl).2 (by omega)
  rw [← e] at h1 h2
  refine ⟨_, rfl, h1, h2, ?_⟩
  have s1 : numTo s (2 * k + 1) = 10 * numTo s (2 * k) + ((s[2 * k]'hk).toNat - 48) := by
    rw [numTo, dif_pos hk, if_neg (by omega)]
  rw [show 2 * (k + 1) = 2 * k + 1 + 1 by omega, numTo]
  by_cases h3 : 2 * k + 1 < s.size
  · have hl3 : 2 * k + 1 < s.data.toList.length := by rw [size_list]; exact h3
    have e3 : s[2 * k + 1]'h3 = s.data.toList[2 * k + 1]'hl3 := by rw [ByteArray.getElem_eq_getElem_data]; simp
    have := (h.at (2 * k + 1) hl3).1 (by omega)
    rw [dif_pos h3, if_pos (by rw [e3]; exact this), s1]
  · rw [dif_neg h3, s1]
/-- What the law's own rows and the table say together. -/
structure Names (L : List PR) (ids : List ByteArray) (fk mk tg : List Int) : Prop where
  inv : Inv 61 ids L
  nm : ∀ p ∈ L, Nm p.id.data.toList (numTo p.id p.id.size)
  live : ∀ p ∈ L, p.exited = false
  lenF : fk.length = ids.length
  lenM : mk.length = ids.length
  at' : ∀ (k : Nat) (hk : k < ids.length), ∃ p ∈ L, p.id = ids[k] ∧ p.forks = fk.getD k 0 ∧ p.tags = mk.getD k 0
  num : ∀ t ∈ tg, ∃ p ∈ L, ∃ j : Int, 1 ≤ j ∧ j ≤ p.tags ∧ t = 10 * (numTo p.id p.id.size : Nat) + j
theorem names_first : Names [firstP 60] [oneB] [0] [0] [] where
  inv := inv_first 60 (by omega) (by omega)
  nm := fun p hp => by
    rw [List.mem_singleton.1 hp]
    exact Nm.one (c := 49) (by decide) (by decide)
  live := fun p hp => by rw [List.mem_singleton.1 hp]; rfl
  lenF := rfl
  lenM := rfl
  at' := fun k hk => by
    obtain rfl : k = 0 := by simpa using hk
    exact ⟨firstP 60, List.mem_singleton.2 rfl, rfl, rfl, rfl⟩
  num := fun t ht => by cases ht
theorem length_normV (l : List Int) : (normV l).length ≤ 16 := by
  unfold normV
  split
  · rename_i h
    unfold setL at h
    simp only [Bool.and_eq_true, decide_eq_true_eq] at h
    exact h.2
  · simp
theorem length_joinL (a b : List Int) : (joinL a b).length ≤ 16 := by
  unfold joinL
  split
  · exact length_normV _
  · simp
theorem fine_tagP {p : PR} (h : Fine p) (ht : p.tags < 9) : Fine (tagP p) := by
  have h1 := length_joinL p.Plus [tagN p]
  have h2 := length_joinL p.Minus [tagN p]
  have h3 := h.t0
  exact ⟨h.lS, h.lI, by show (joinL p.Plus [tagN p]).length ≤ _; omega, by show (joinL p.Minus [tagN p]).length ≤ _; omega, h.f0, h.f1, by show 0 ≤ p.tags + 1; omega, by show p.tags + 1 ≤ 9; omega, h.s0, h.s1, h.id1, h.idc⟩
section
variable {L : List PR} {ids : List ByteArray} {fk mk tg : List Int}
theorem Names.look (h : Names L ids fk mk tg) {k : Nat} (hk : k < ids.length) : ∃ p ∈ L, p.id = ids[k] ∧ p.forks = fk.getD k 0 ∧ p.tags = mk.getD k 0 ∧ p.exited = false ∧ Fine p ∧ get L ids[k] = some p ∧ Nm ids[k].data.toList (numTo p.id p.id.size) := by
  obtain ⟨p, hp, e1, e2, e3⟩ := h.at' k hk
  exact ⟨p, hp, e1, e2, e3, h.live p hp, h.inv.fine p hp, by rw [← e1]; exact get_of_mem h.inv.uniq hp, by rw [← e1]; exact h.nm p hp⟩
/-- A table beside which whole numbers were written. -/
theorem Names.shake (h : Names L ids fk mk tg) {f : PR → PR} (hf : ∀ p ∈ L, Alike p (f p)) : Names (L.map f) ids fk mk tg where
  inv := h.inv.map f (fun p hp => by
    have a := hf p hp
    have b := h.inv.fine p hp
    exact ⟨a.id, a.forks, ⟨by rw [a.lS]; exact b.lS, by rw [a.lI]; exact b.lI, by rw [a.lP]; exact b.lP, by rw [a.lM]; exact b.lM, by rw [a.forks]; exact b.f0, by rw [a.forks]; exact b.f1, by rw [a.tags]; exact b.t0, by rw [a.tags]; exact b.t1, by rw [a.share]; exact b.s0, by rw [a.share]; exact b.s1, by rw [a.id]; exact b.id1, by rw [a.id]; exact b.idc⟩⟩) (by rw [sum_map_share f (fun p hp => (hf p hp).share)]; exact h.inv.sum)
  nm := fun q hq => by
    obtain ⟨p, hp, rfl⟩ := List.mem_map.1 hq
    rw [(hf p hp).id]
    exact h.nm p hp
  live := fun q hq => by
    obtain ⟨p, hp, rfl⟩ := List.mem_map.1 hq
    rw [(hf p hp).exited]
    exact h.live p hp
  lenF := h.lenF
  lenM := h.lenM
  at' := fun k hk => by
    obtain ⟨p, hp, e1, e2, e3⟩ := h.at' k hk
    exact ⟨f p, List.mem_map.2 ⟨p, hp, rfl⟩, by rw [(hf p hp).id, e1], by rw [(hf p hp).forks, e2], by rw [(hf p hp).tags, e3]⟩
  num := fun t ht => by
    obtain ⟨p, hp, j, h1, h2, h3⟩ := h.num t ht
    exact ⟨f p, List.mem_map.2 ⟨p, hp, rfl⟩, j, h1, by rw [(hf p hp).tags]; exact h2, by rw [(hf p hp).id]; exact h3⟩
/-- A new tag's number was never told. -/
theorem Names.new (h : Names L ids fk mk tg) {p : PR} (hp : p ∈ L) (ht : p.tags < 9) : tagN p ∉ tg := fun hm => by
  obtain ⟨q, hq, j, h1, h2, h3⟩ := h.num _ hm
  unfold tagN at h3
  have hq9 := (h.inv.fine q hq).t1
  have hp0 := (h.inv.fine p hp).t0
  have hn : numTo p.id p.id.size = numTo q.id q.id.size := by omega
  have hl := (h.nm p hp).inj (h.nm q hq) hn
  have hid : p.id = q.id := by
    cases e1 : p.id
    cases e2 : q.id
    rw [e1, e2] at hl
    simp at hl
    rw [hl]
  have := h.inv.uniq p hp q hq hid
  subst this
  omega
theorem getD_set (l : List Int) (k j : Nat) (x : Int) : (l.set k x).getD j 0 = if k = j ∧ j < l.length then x else l.getD j 0 := by
  simp only [List.getD_eq_getElem?_getD, List.getElem?_set]
  by_cases h : k = j
  · subst h
    by_cases h2 : k < l.length
    · simp [h2]
    · simp [h2]
  · simp [h]
theorem nodup_at {α : Type} {l : List α} (hn : l.Nodup) {i j : Nat} (hi : i < l.length) (hj : j < l.length) (e : l[i] = l[j]) : i = j := by
  rcases Nat.lt_trichotomy i j with h | h | h
  · exact absurd e (List.pairwise_iff_getElem.1 hn i j hi hj h)
  · exact h
  · exact absurd e.symm (List.pairwise_iff_getElem.1 hn j i hj hi h)
theorem Names.tag (h : Names L ids fk mk tg) {k : Nat} (hk : k < ids.length) {p : PR} (hp : p ∈ L) (hid : p.id = ids[k]) (ht : p.tags < 9) :
    Names (updP (tagP p) L) ids fk (mk.set k (p.tags + 1)) (tg ++ [tagN p]) := by
  have hu := h.inv.uniq
  have hF := h.inv.fine p hp
  have hone : ∀ q ∈ L, q.id = p.id → q = p := fun q hq e => hu q hq p hp e
  have key : ∀ q ∈ L, (if q.id = (tagP p).id then tagP p else q : PR).id = q.id ∧ (if q.id = (tagP p).id then tagP p else q : PR).forks = q.forks ∧ (if q.id = (tagP p).id then tagP p else q : PR).share = q.share ∧ (if q.id = (tagP p).id then tagP p else q : PR).exited = q.exited ∧ (if q.id = (tagP p).id then tagP p else q : PR).tags = (if q.id = p.id then p.tags + 1 else q.tags) ∧ Fine (if q.id = (tagP p).id then tagP p else q) := fun q hq => by
    by_cases e : q.id = p.id
    · have := hone q hq e
      subst this
      rw [if_pos (show q.id = (tagP q).id from rfl), if_pos rfl]
      exact ⟨rfl, rfl, rfl, rfl, rfl, fine_tagP hF ht⟩
    · rw [if_neg (show ¬ q.id = (tagP p).id from e), if_neg e]
      exact ⟨rfl, rfl, rfl, rfl, rfl, h.inv.fine q hq⟩
  have e0 : updP (tagP p) L = L.map (fun q => if q.id = (tagP p).id then tagP p else q) := rfl
  rw [e0]
  refine ⟨h.inv.map _ (fun q hq => ⟨(key q hq).1, (key q hq).2.1, (key q hq).2.2.2.2.2⟩) ?_, ?_, ?_, h.lenF, ?_, ?_, ?_⟩
  · rw [sum_map_share _ (fun q hq => (key q hq).2.2.1)]; exact h.inv.sum
  · intro q hq
    obtain ⟨q0, hq0, rfl⟩ := List.mem_map.1 hq
    rw [(key q0 hq0).1]
    exact h.nm q0 hq0
  · intro q hq
    obtain ⟨q0, hq0, rfl⟩ := List.mem_map.1 hq
    rw [(key q0 hq0).2.2.2.1]
    exact h.live q0 hq0
  · rw [List.length_set]; exact h.lenM
  · intro j hj
    obtain ⟨q, hq, e1, e2, e3⟩ := h.at' j hj
    refine ⟨_, List.mem_map.2 ⟨q, hq, rfl⟩, by rw [(key q hq).1, e1], by rw [(key q hq).2.1, e2], ?_⟩
    rw [(key q hq).2.2.2.2.1, getD_set]
    by_cases e : q.id = p.id
    · have hjk : k = j := by
        have hn := h.inv.perm.nodup_iff.2 h.inv.nodup
        exact nodup_at hn hk hj (by rw [← hid, ← e1, e])
      rw [if_pos e, if_pos ⟨hjk, by rw [h.lenM]; exact hj⟩]
    · have hjk : ¬ (k = j ∧ j < mk.length) := fun c => e (by
        obtain ⟨c, _⟩ := c
        subst c
        rw [e1, hid])
      rw [if_neg e, if_neg hjk, e3]
  · intro t ht'
    rcases List.mem_append.1 ht' with hm | hm
    · obtain ⟨q, hq, j, h1, h2, h3⟩ := h.num t hm
      refine ⟨_, List.mem_map.2 ⟨q, hq, rfl⟩, j, h1, ?_, by rw [(key q hq).1]; exact h3⟩
      rw [(key q hq).2.2.2.2.1]
      split
      · rename_i e
        have := hone q hq e
        subst this
        omega
      · exact h2
    · refine ⟨_, List.mem_map.2 ⟨p, hp, rfl⟩, p.tags + 1, by have := hF.t0; omega, ?_, ?_⟩
      · rw [(key p hp).2.2.2.2.1, if_pos rfl]; omega
      · rw [(key p hp).1, List.mem_singleton.1 hm]
        unfold tagN
        omega
theorem Names.fork (h : Names L ids fk mk tg) {k : Nat} (hk : k < ids.length) {p : PR} (hp : p ∈ L) (hid : p.id = ids[k]) (h1 : 3 < p.share) (h2 : p.forks < 9) (h3 : p.id.size < 15) :
    Names (putP (child p 3) (delP (childId p.id (p.forks + 1)) (updP (parentP p 3) L))) (ids ++ [childId p.id (p.forks + 1)]) (fk.set k (p.forks + 1) ++ [0]) (mk ++ [0]) tg := by
  have hu := h.inv.uniq
  have hF := h.inv.fine p hp
  have hf0 := hF.f0
  have hone : ∀ q ∈ L, q.id = p.id → q = p := fun q hq e => hu q hq p hp e
  have hfr := h.inv.fresh hp h2
  have ed : delP (childId p.id (p.forks + 1)) (updP (parentP p 3) L) = updP (parentP p 3) L := delP_id (fun q hq e => by
    obtain ⟨q0, hq0, rfl⟩ := List.mem_map.1 hq
    refine hfr q0 hq0 ?_
    rw [← e]
    split
    · rename_i h; exact h
    · rfl)
  have hnew : ∀ q, q ∈ putP (child p 3) (delP (childId p.id (p.forks + 1)) (updP (parentP p 3) L)) → q = child p 3 ∨ ∃ q0 ∈ L, q.id = q0.id ∧ q.exited = q0.exited := fun q hq => by
    rw [ed] at hq
    rcases (mem_putP _).1 hq with rfl | hq
    · exact .inl rfl
    · obtain ⟨q0, hq0, rfl⟩ := List.mem_map.1 hq
      refine .inr ⟨q0, hq0, ?_⟩
      by_cases e : q0.id = (parentP p 3).id
      · have := hone q0 hq0 e
        subst this
        rw [if_pos e]
        exact ⟨rfl, rfl⟩
      · rw [if_neg e]; exact ⟨rfl, rfl⟩
  have hold : ∀ q ∈ L, ∃ q' ∈ putP (child p 3) (delP (childId p.id (p.forks + 1)) (updP (parentP p 3) L)), q'.id = q.id ∧ q'.tags = q.tags ∧ q'.forks = if q.id = p.id then p.forks + 1 else q.forks := fun q hq => by
    rw [ed]
    refine ⟨if q.id = (parentP p 3).id then parentP p 3 else q, (mem_putP _).2 (.inr (List.mem_map.2 ⟨q, hq, rfl⟩)), ?_⟩
    by_cases e : q.id = p.id
    · have := hone q hq e
      subst this
      rw [if_pos (show q.id = (parentP q 3).id from rfl), if_pos rfl]
      exact ⟨rfl, rfl, rfl⟩
    · rw [if_neg (show ¬ q.id = (parentP p 3).id from e), if_neg e]
      exact ⟨rfl, rfl, rfl⟩
  have hcl := childId_list (id := p.id) (n := p.forks + 1) (by omega) (by omega)
  refine ⟨h.inv.fork hp (by omega) h1 h2 h3, ?_, ?_, ?_, ?_, ?_, ?_⟩
  · intro q hq
    rcases hnew q hq with rfl | ⟨q0, hq0, e, _⟩
    · show Nm (childId p.id (p.forks + 1)).data.toList (numTo (childId p.id (p.forks + 1)) (childId p.id (p.forks + 1)).size)
      have hb : (UInt8.ofNat (48 + (p.forks + 1).toNat)).toNat = 48 + (p.forks + 1).toNat := nat_ofNat8 (by omega)
      have hm := Nm.more (c := UInt8.ofNat (48 + (p.forks + 1).toNat)) (h.nm p hp) (by rw [hb]; omega) (by rw [hb]; omega)
      rw [numTo_all _ _ (Nat.le_refl _), hcl]
      have := hm.num
      rw [this]
      exact hm
    · rw [e]; exact h.nm q0 hq0
  · intro q hq
    rcases hnew q hq with rfl | ⟨q0, hq0, _, e⟩
    · rfl
    · rw [e]; exact h.live q0 hq0
  · rw [List.length_append, List.length_append, List.length_set, h.lenF]; rfl
  · rw [List.length_append, List.length_append, h.lenM]; rfl
  · intro j hj
    have hlF := h.lenF
    have hlM := h.lenM
    rw [List.length_append, List.length_singleton] at hj
    by_cases hj2 : j < ids.length
    · obtain ⟨q, hq, e1, e2, e3⟩ := h.at' j hj2
      obtain ⟨q', hq', f1, f2, f3⟩ := hold q hq
      refine ⟨q', hq', by rw [f1, e1, List.getElem_append_left hj2], ?_, ?_⟩
      · have ea : (fk.set k (p.forks + 1) ++ [0]).getD j 0 = (fk.set k (p.forks + 1)).getD j 0 := by
          simp only [List.getD_eq_getElem?_getD]
          rw [List.getElem?_append_left (by rw [List.length_set]; omega)]
        rw [f3, ea, getD_set]
        by_cases e : q.id = p.id
        · have hjk : k = j := by
            have hn := h.inv.perm.nodup_iff.2 h.inv.nodup
            exact nodup_at hn hk hj2 (by rw [← hid, ← e1, e])
          rw [if_pos e, if_pos ⟨hjk, by omega⟩]
        · have hjk : ¬ (k = j ∧ j < fk.length) := fun c => e (by
            obtain ⟨c, _⟩ := c
            subst c
            rw [e1, hid])
          rw [if_neg e, if_neg hjk, e2]
      · rw [f2, e3]
        simp only [List.getD_eq_getElem?_getD]
        rw [List.getElem?_append_left (by omega)]
    · obtain rfl : j = ids.length := by omega
      refine ⟨child p 3, (mem_putP _).2 (.inl rfl), ?_, ?_, ?_⟩
      · rw [List.getElem_append_right (Nat.le_refl _)]
        simp [child]
      · simp only [List.getD_eq_getElem?_getD]
        rw [List.getElem?_append_right (by rw [List.length_set]; omega), List.length_set, hlF]
        simp [child]
      · simp only [List.getD_eq_getElem?_getD]
        rw [List.getElem?_append_right (by omega), hlM]
        simp [child]
  · intro t ht
    obtain ⟨q, hq, j, g1, g2, g3⟩ := h.num t ht
    obtain ⟨q', hq', f1, f2, f3⟩ := hold q hq
    exact ⟨q', hq', j, g1, by rw [f2]; exact g2, by rw [f1]; exact g3⟩
end
end Go.Proofs.YtmphnoabkmoafaaDoor
