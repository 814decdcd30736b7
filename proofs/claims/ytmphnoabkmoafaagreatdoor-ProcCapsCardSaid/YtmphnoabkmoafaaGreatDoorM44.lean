/- The reference's Norm: a list in order, each tag once. -/
import Derived.Test.YtmphnoabkmoafaaGreatDoorM43
import Derived.Test.YtmphnoabkmoafaaGreatDoorM10
namespace Go.Proofs.YtmphnoabkmoafaaGreatDoor
open Go.RowKit
variable {uu0 : Unit} [Base uu0]
theorem rise_length : ∀ (r o : List Int), o.Pairwise (· < ·) → r.Pairwise (· < ·) → (∀ x ∈ o, x ∈ r) → o.length ≤ r.length := by
  intro r
  induction r with
  | nil =>
    intro o _ _ h
    cases o with
    | nil => exact Nat.le_refl _
    | cons x o => exact absurd (h x (by simp)) (by simp)
  | cons y r ih =>
    intro o ho hr h
    cases o with
    | nil => simp
    | cons x o =>
      obtain ⟨a1, a2⟩ := List.pairwise_cons.1 ho
      obtain ⟨b1, b2⟩ := List.pairwise_cons.1 hr
      have k : o.length ≤ r.length := by
        refine ih o a2 b2 fun z hz => ?_
        rcases List.mem_cons.1 (h z (by simp [hz])) with e | e
        · have h1 := a1 z hz
          rcases List.mem_cons.1 (h x (by simp)) with e2 | e2
          · omega
          · have := b1 x e2; omega
        · exact e
      simp only [List.length_cons]; omega
theorem put_rise {o : List Int} {k : Nat} {t : Int} (ho : o.Pairwise (· < ·)) (h1 : ∀ x ∈ o.take k, x < t) (h2 : k = o.length ∨ t < o.getD k 0) :
    (o.take k ++ [t] ++ o.drop k).Pairwise (· < ·) ∧ ∀ x, x ∈ o.take k ++ [t] ++ o.drop k ↔ x ∈ o ∨ x = t := by
  have hsplit : o.take k ++ o.drop k = o := List.take_append_drop k o
  have hp : (o.take k ++ o.drop k).Pairwise (· < ·) := by rw [hsplit]; exact ho
  obtain ⟨p1, p2, p3⟩ := List.pairwise_append.1 hp
  have hd : ∀ y ∈ o.drop k, t < y := by
    intro y hy
    rcases h2 with h2 | h2
    · rw [h2, List.drop_length] at hy; cases hy
    · rcases Nat.lt_or_ge k o.length with hk | hk
      · rw [List.drop_eq_getElem_cons hk] at hy p2
        have e : o.getD k 0 = o[k] := by simp [List.getD, hk]
        rcases List.mem_cons.1 hy with e2 | e2
        · rw [e2, ← e]; exact h2
        · have := (List.pairwise_cons.1 p2).1 y e2
          omega
      · rw [List.drop_eq_nil_of_le hk] at hy; cases hy
  constructor
  · rw [List.pairwise_append, List.pairwise_append]
    refine ⟨⟨p1, by simp, fun x hx y hy => ?_⟩, p2, fun x hx y hy => ?_⟩
    · rw [List.mem_singleton.1 hy]; exact h1 x hx
    · rcases List.mem_append.1 hx with e | e
      · exact p3 x e y hy
      · rw [List.mem_singleton.1 e]; exact hd y hy
  · intro x
    constructor
    · intro h
      rcases List.mem_append.1 h with h | h
      · rcases List.mem_append.1 h with h | h
        · exact .inl (List.mem_of_mem_take h)
        · exact .inr (List.mem_singleton.1 h)
      · exact .inl (List.mem_of_mem_drop h)
    · rintro (h | h)
      · rw [← hsplit] at h
        rcases List.mem_append.1 h with h | h
        · exact List.mem_append.2 (.inl (List.mem_append.2 (.inl h)))
        · exact List.mem_append.2 (.inr h)
      · rw [h]; exact List.mem_append.2 (.inl (List.mem_append.2 (.inr (by simp))))
/-- What the reference has of the first k. -/
structure RefOut (l : List Int) (k : Nat) (o : List Int) : Prop where
  rise : o.Pairwise (· < ·)
  mem : ∀ x, x ∈ o ↔ x ∈ l.take k
  few : o.length ≤ 16
theorem RefOut.same {l o : List Int} {k : Nat} (h : RefOut l k o) (hk : k < l.length) (hx : l.getD k 0 ∈ o) : RefOut l (k + 1) o :=
  ⟨h.rise, fun x => by rw [mem_take_succ hk, h.mem]; exact ⟨.inl, fun e => e.elim id fun e => by rw [e]; exact (h.mem _).1 hx⟩, h.few⟩
theorem normL_many {l o : List Int} {k : Nat} (h1 : o.Pairwise (· < ·)) (h2 : ∀ x, x ∈ o ↔ x ∈ l.take k) (h3 : 16 < o.length) : setL (normL l) = false ∧ normV l = [] := by
  obtain ⟨n1, n2⟩ := normL_laws l
  have := rise_length (normL l) o h1 n1 fun x hx => (n2 x).2 (List.mem_of_mem_take ((h2 x).1 hx))
  have e : setL (normL l) = false := by
    unfold setL
    rw [decide_eq_false (by omega : ¬ (normL l).length ≤ 16), Bool.and_false]
  exact ⟨e, by unfold normV; rw [e]; rfl⟩
set_option maxRecDepth 100000 in
set_option maxHeartbeats 2000000 in
theorem refnorm_any (v : Value) (l : List Int) (w : World) (h : IntsAt w v l) (hl : l.length ≤ 17592186043904) :
    Calls Tryz.prog 91 #[v] w fun e w' => ∃ v', e = .returned (.tuple #[v', .bool (setL (normL l))]) ∧ IntsAt w' v' (normV l) ∧ Below w.heap.size w w' := by
  obtain ⟨ao, c, rfl⟩ := h.shape
  obtain ⟨n, hn⟩ : ∃ n, n = l.length := ⟨_, rfl⟩
  have Hn := Lib.hid hn
  have H' : Hid (IntsAt w (.slice ao l.length c) l) := h
  rw [← hn] at hl H' ⊢
  obtain ⟨s, hs⟩ : ∃ s, s = setL (normL l) := ⟨_, rfl⟩
  obtain ⟨lv, hlv⟩ : ∃ s, s = normV l := ⟨_, rfl⟩
  rw [← hs, ← hlv]
  have Hs0 := Lib.hid hs
  have Hlv := Lib.hid hlv
  clear hn h hs hlv
  go_enter Tryz.func91, Tryz.ntmps91
  go_wp2
  go_loopw [4, 5] (fun u i wr => ∃ (k m : Nat) (o : List Int) (ao : Option Addr) (c : Nat), k ≤ n ∧ m ≤ 16 ∧ i = .int .i64 k ∧ u = .slice ao m c ∧ o.length = m ∧ RefOut l k o ∧ IntsAt wr (.slice ao m c) o ∧ (m = 0 → ao = none ∧ c = 0) ∧ Below w.heap.size w wr) (fun _ i _ => n - (intOf i).toNat)
  case atStart => exact ⟨0, 0, [], none, 0, by omega, by omega, rfl, rfl, rfl, ⟨by simp, by simp, by simp⟩, IntsAt.nil _, fun _ => ⟨rfl, rfl⟩, Below.refl _ _⟩
  case round =>
    obtain ⟨k, m, o, ao4, c4, hk, hm, rfl, rfl, hom, hro, hio, hno, hbel⟩ := hrel
    have Hom := Lib.hid hom
    have Hro := Lib.hid hro
    have Hno := Lib.hid hno
    clear hom hro hno
    by_cases hlt : k < n
    · have hia := H'.out
      rw [Hn.out] at hia
      obtain ⟨g, off, c', hv, hcell⟩ := hia.cells (by have := Hn.out; omega)
      obtain ⟨rfl, rfl⟩ : ao = some ⟨g, off, none⟩ ∧ c = c' := by simpa using hv
      have hgl : g < w.heap.size := by
        rcases hia with ⟨h0, _⟩ | ⟨g', off', c'', hv', _, _, h2, _⟩
        · have := Hn.out; rw [h0] at this; simp at this; omega
        · obtain ⟨⟨rfl, rfl⟩, _⟩ : (g = g' ∧ off = off') ∧ c = c'' := by simpa using hv'
          exact h2.lt
      have c0 : wr.cell? ⟨g, off + k, none⟩ = some (.int .i64 (l.getD k 0)) := (hbel.cell (p := ⟨g, off + k, none⟩) hgl).trans (hcell k (by have := Hn.out; omega))
      have Hkl : Hid (k < l.length) := by have := Hn.out; show k < _; omega
      obtain ⟨x, hx⟩ : ∃ x, x = l.getD k 0 := ⟨_, rfl⟩
      rw [← hx] at c0
      have Hx := Lib.hid hx
      have hhas := has_any _ o x wr hio (by rw [Hom.out]; omega)
      have Hio := Lib.hid hio
      have Hhas := Lib.hid hhas
      clear hia hcell hv hx hio hhas
      by_cases hxo : x ∈ o
      · have hb : decide (x ∈ o) = true := by simp [hxo]
        have hr2 : Hid (RefOut l (k + 1) o) := Hro.out.same Hkl.out (by rw [← Hx.out]; exact hxo)
        clear hxo
        go_wp2_with (go_at_call 9; refine Hhas.out.mono ?_; rintro e w1 ⟨rfl, rfl⟩; rw [hb])
        exact ⟨⟨k + 1, m, o, ao4, c4, by omega, hm, by go_num, rfl, Hom.out, hr2.out, Hio.out, Hno.out, hbel⟩, by simp [intOf]; omega⟩
      · have hb : decide (x ∈ o) = false := by simp [hxo]
        have hput : Calls Tryz.prog 108 #[.slice ao4 m c4, .int .i64 x] wr fun e w' => ∃ v' o', o'.length = m + 1 ∧ o'.Pairwise (· < ·) ∧ (∀ y, y ∈ o' ↔ y ∈ l.take (k + 1)) ∧ e = .returned v' ∧ w'.ownsRow wr.heap.size 3 1 v' (m + 1) (lits o') ∧ Below wr.heap.size wr w' := by
          rcases Nat.eq_zero_or_pos m with hm0 | hm0
          · obtain ⟨e1, e2⟩ := Hno.out hm0
            have eo : o = [] := List.eq_nil_of_length_eq_zero (by rw [Hom.out, hm0])
            subst eo e1 e2 hm0
            refine (put_nil x wr).mono ?_
            rintro e w' ⟨v', rfl, hown, hb⟩
            refine ⟨v', [x], rfl, by simp, fun y => ?_, rfl, hown, hb⟩
            rw [mem_take_succ Hkl.out, ← Hro.out.mem, ← Hx.out]; simp
          · obtain ⟨g4, off4, c4', hv4, _⟩ := (show IntsAt wr (.slice ao4 o.length c4) o by rw [Hom.out]; exact Hio.out).cells (by rw [Hom.out]; exact hm0)
            obtain ⟨e1, rfl⟩ : ao4 = some ⟨g4, off4, none⟩ ∧ c4 = c4' := by simpa using hv4
            subst e1
            have hc4 : o.length ≤ c4 := by
              rcases Hio.out with ⟨h0, _⟩ | ⟨g', off', c'', hv', _, hc, h2, _⟩
              · have := Hom.out; rw [h0] at this; simp at this; omega
              · obtain ⟨_, _, rfl⟩ : (g4 = g' ∧ off4 = off') ∧ m = o.length ∧ c4 = c'' := by simpa using hv'
                exact hc
            have hp := put_pos g4 off4 c4 o x wr (by rw [Hom.out]; exact Hio.out) (by rw [Hom.out]; exact hm0) (by rw [Hom.out]; omega) hc4 hxo
            rw [Hom.out] at hp
            refine hp.mono ?_
            rintro e w' ⟨v', j, hj, h1, h2, rfl, hown, hb⟩
            obtain ⟨q1, q2⟩ := put_rise Hro.out.rise h1 (by rw [Hom.out]; exact h2)
            refine ⟨v', _, ?_, q1, fun y => ?_, rfl, hown, hb⟩
            · have := Hom.out
              simp only [List.length_append, List.length_take, List.length_drop, List.length_cons, List.length_nil]; omega
            · rw [q2, mem_take_succ Hkl.out, Hro.out.mem, ← Hx.out]
        have Hput := Lib.hid hput
        clear hxo hput
        by_cases hm16 : m + 1 ≤ 16
        · go_wp2_with (first
            | (go_at_call 9; refine Hhas.out.mono ?_; rintro e w1 ⟨rfl, rfl⟩; rw [hb])
            | (go_at_call 108; refine Hput.out.mono ?_; rintro e w2 ⟨v2, o2, ho2, hr2, hm2, rfl, hown2, hb2⟩; obtain ⟨ao2, c2, rfl, hc2, _⟩ := owns_shape hown2; have Ho2 := Lib.hid ho2; clear ho2))
          exact ⟨⟨k + 1, m + 1, o2, ao2, c2, by omega, by omega, by go_num, rfl, Ho2.out, ⟨hr2, hm2, by rw [Ho2.out]; exact hm16⟩, by have := IntsAt.of_owns hown2; exact this, by omega, hbel.trans (hb2.mono hbel.size)⟩, by simp [intOf]; omega⟩
        · go_wp2_with (first
            | (go_at_call 9; refine Hhas.out.mono ?_; rintro e w1 ⟨rfl, rfl⟩; rw [hb])
            | (go_at_call 108; refine Hput.out.mono ?_; rintro e w2 ⟨v2, o2, ho2, hr2, hm2, rfl, hown2, hb2⟩; obtain ⟨ao2, c2, rfl, hc2, _⟩ := owns_shape hown2; have Ho2 := Lib.hid ho2; clear ho2))
          go_ret2
          obtain ⟨q1, q2⟩ := normL_many hr2 hm2 (by rw [Ho2.out]; omega)
          rw [← Hs0.out] at q1
          rw [← Hlv.out] at q2
          rw [q1, q2]
          exact ⟨_, rfl, IntsAt.nil _, hbel.trans (hb2.mono hbel.size)⟩
    · obtain rfl : k = n := by omega
      have hset := refset_any _ o wr hio (by rw [Hom.out]; omega)
      have hno : normL l = o := normL_eq _ _ Hro.out.rise fun x => by
        rw [Hro.out.mem, List.take_of_length_le (by have := Hn.out; omega)]
      have Hs : Hid (s = setL o ∧ lv = if s then o else []) := by
        refine ⟨by rw [Hs0.out, hno], ?_⟩
        rw [Hlv.out]
        unfold normV; rw [← Hs0.out, hno]
      have Hset := Lib.hid hset
      have Hio := Lib.hid hio
      clear hset hno hio
      go_wp2_with (go_at_call 90; refine Hset.out.mono ?_; rintro e w1 ⟨rfl, nn, rfl⟩; rw [← Hs.out.1])
      all_goals
        go_ret2
        rename_i hx
        first
          | (obtain rfl : s = false := by simpa using hx
             rw [Hs.out.2]
             exact ⟨_, rfl, IntsAt.nil _, ⟨hbel.os, hbel.tape, hbel.output, hbel.size, hbel.block⟩⟩)
          | (obtain rfl : s = true := by simpa using hx
             rw [Hs.out.2]
             exact ⟨_, rfl, Hio.out.drewN nn, ⟨hbel.os, hbel.tape, hbel.output, hbel.size, hbel.block⟩⟩)
end Go.Proofs.YtmphnoabkmoafaaGreatDoor
