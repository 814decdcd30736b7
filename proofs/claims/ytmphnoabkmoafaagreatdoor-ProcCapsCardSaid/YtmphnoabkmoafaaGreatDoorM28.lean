/- ProcShares in plain words: what all shares come to, and that no name is made twice. -/
import Derived.Test.YtmphnoabkmoafaaGreatDoorM27
namespace Go.Proofs.YtmphnoabkmoafaaGreatDoor
open Go.RowKit Go.Maps
set_option linter.unusedVariables false
variable {uu0 : Unit} [Base uu0]
def sumS (L : List PR) : Int := (L.map fun p => p.share + 1).sum
theorem sumS_cons (p : PR) (L : List PR) : sumS (p :: L) = p.share + 1 + sumS L := by simp [sumS]
theorem sumS_nil : sumS [] = 0 := rfl
theorem perm_put (c : PR) : ∀ L : List PR, (putP c L).Perm (c :: L)
  | [] => List.Perm.refl _
  | q :: r => by
    unfold putP
    split
    · exact List.Perm.refl _
    · exact ((perm_put c r).cons q).trans (List.Perm.swap c q r)
theorem perm_sum {α : Type} {f : α → Int} {l l' : List α} (h : l.Perm l') : (l.map f).sum = (l'.map f).sum := by
  induction h with
  | nil => rfl
  | cons x _ ih => simp [ih]
  | swap x y l => simp; omega
  | trans _ _ h1 h2 => exact h1.trans h2
theorem sum_put (c : PR) (L : List PR) : sumS (putP c L) = c.share + 1 + sumS L := by
  unfold sumS
  rw [perm_sum (perm_put c L)]
  simp
theorem updP_none {p' : PR} : ∀ {L : List PR}, (∀ q ∈ L, q.id ≠ p'.id) → updP p' L = L := fun {L} h => by
  unfold updP
  conv => rhs; rw [← List.map_id L]
  apply List.map_congr_left
  intro q hq
  rw [if_neg (h q hq)]
  rfl
theorem sum_upd {p p' : PR} (hid : p'.id = p.id) : ∀ {L : List PR}, (L.map PR.id).Nodup → p ∈ L → sumS (updP p' L) = sumS L - p.share + p'.share
  | [], _, h => by cases h
  | q :: r, hn, h => by
    rw [List.map_cons, List.nodup_cons] at hn
    have e : updP p' (q :: r) = (if q.id = p'.id then p' else q) :: updP p' r := rfl
    rw [e]
    by_cases hq : q.id = p'.id
    · have hpq : p = q := by
        rcases List.mem_cons.1 h with h | h
        · exact h
        · exact absurd (List.mem_map.2 ⟨p, h, by rw [hq, hid]⟩) hn.1
      rw [if_pos hq, updP_none (fun x hx e2 => hn.1 (List.mem_map.2 ⟨x, hx, by rw [e2, hq]⟩)), sumS_cons, sumS_cons, hpq]
      omega
    · have hr : p ∈ r := by
        rcases List.mem_cons.1 h with h | h
        · exact absurd (by rw [← h, hid]) hq
        · exact h
      rw [if_neg hq, sumS_cons, sumS_cons, sum_upd hid hn.2 hr]
      omega
theorem delP_id {id : ByteArray} {L : List PR} (h : ∀ q ∈ L, q.id ≠ id) : delP id L = L := by
  unfold delP
  rw [List.filter_eq_self]
  intro q hq
  simpa using h q hq
theorem sum_del {c : PR} : ∀ {L : List PR}, (L.map PR.id).Nodup → c ∈ L → sumS (delP c.id L) = sumS L - (c.share + 1)
  | [], _, h => by cases h
  | q :: r, hn, h => by
    rw [List.map_cons, List.nodup_cons] at hn
    by_cases hq : q.id = c.id
    · have hcq : c = q := by
        rcases List.mem_cons.1 h with h | h
        · exact h
        · exact absurd (List.mem_map.2 ⟨c, h, hq.symm⟩) hn.1
      have e : delP c.id (q :: r) = delP c.id r := by unfold delP; rw [List.filter_cons]; simp [hq]
      rw [e, delP_id (fun x hx e2 => hn.1 (List.mem_map.2 ⟨x, hx, by rw [e2, hq]⟩)), sumS_cons, hcq]
      omega
    · have hr : c ∈ r := by
        rcases List.mem_cons.1 h with h | h
        · exact absurd (by rw [h]) hq
        · exact h
      have e : delP c.id (q :: r) = q :: delP c.id r := by unfold delP; rw [List.filter_cons]; simp [hq]
      rw [e, sumS_cons, sumS_cons, sum_del hn.2 hr]
      omega
theorem updP_ids (p' : PR) (L : List PR) : (updP p' L).map PR.id = L.map PR.id := by
  unfold updP
  rw [List.map_map]
  apply List.map_congr_left
  intro q _
  show (if q.id = p'.id then p' else q).id = q.id
  split
  · rename_i h; exact h.symm
  · rfl
/-- What a table of processes keeps to. -/
structure Inv (tot : Int) (th : List ByteArray) (L : List PR) : Prop where
  perm : th.Perm (L.map PR.id)
  nodup : (L.map PR.id).Nodup
  sum : sumS L = tot
  small : tot ≤ 1000
  fine : ∀ p ∈ L, Fine p
  odd : ∀ p ∈ L, p.id.size % 2 = 1
  pre : ∀ p ∈ L, ∀ q ∈ L, ∀ (k : UInt8) (r : List UInt8), q.id.data.toList = p.id.data.toList ++ 46 :: k :: r → (k.toNat : Int) ≤ 48 + p.forks
theorem sum_ge : ∀ {L : List PR}, (∀ p ∈ L, 0 ≤ p.share) → (L.length : Int) ≤ sumS L
  | [], _ => by simp [sumS]
  | p :: r, h => by
    have h1 := h p (by simp)
    have h2 := sum_ge (L := r) (fun q hq => h q (by simp [hq]))
    rw [sumS_cons, List.length_cons]
    omega
section
variable {tot : Int} {th : List ByteArray} {L : List PR}
theorem Inv.len (h : Inv tot th L) : L.length ≤ 1000 := by
  have h1 := sum_ge (fun p hp => (h.fine p hp).s0)
  have h2 := h.sum
  have h3 := h.small
  omega
theorem Inv.uniq (h : Inv tot th L) : ∀ p ∈ L, ∀ q ∈ L, p.id = q.id → p = q := by
  have hn := h.nodup
  intro p hp q hq e
  clear h
  induction L with
  | nil => cases hp
  | cons x r ih =>
    rw [List.map_cons, List.nodup_cons] at hn
    rcases List.mem_cons.1 hp with h1 | h1
    · rcases List.mem_cons.1 hq with h2 | h2
      · rw [h1, h2]
      · exact absurd (List.mem_map.2 ⟨q, h2, by rw [← e, h1]⟩) hn.1
    · rcases List.mem_cons.1 hq with h2 | h2
      · exact absurd (List.mem_map.2 ⟨p, h1, by rw [e, h2]⟩) hn.1
      · exact ih hn.2 h1 h2
/-- A process is turned, its name and its forks are not, nor what all shares come to. -/
theorem Inv.map (h : Inv tot th L) (g : PR → PR) (hg : ∀ p ∈ L, (g p).id = p.id ∧ (g p).forks = p.forks ∧ Fine (g p)) (hs : sumS (L.map g) = tot) : Inv tot th (L.map g) where
  perm := by
    have e1 : (L.map g).map PR.id = L.map PR.id := by rw [List.map_map]; exact List.map_congr_left (fun p hp => (hg p hp).1)
    rw [e1]
    exact h.perm
  nodup := by
    have e1 : (L.map g).map PR.id = L.map PR.id := by rw [List.map_map]; exact List.map_congr_left (fun p hp => (hg p hp).1)
    rw [e1]
    exact h.nodup
  sum := hs
  small := h.small
  fine := fun p hp => by
    obtain ⟨q, hq, rfl⟩ := List.mem_map.1 hp
    exact (hg q hq).2.2
  odd := fun p hp => by
    obtain ⟨q, hq, rfl⟩ := List.mem_map.1 hp
    rw [(hg q hq).1]
    exact h.odd q hq
  pre := fun p hp q hq k r e => by
    obtain ⟨p0, hp0, rfl⟩ := List.mem_map.1 hp
    obtain ⟨q0, hq0, rfl⟩ := List.mem_map.1 hq
    rw [(hg p0 hp0).1, (hg q0 hq0).1] at e
    rw [(hg p0 hp0).2.1]
    exact h.pre p0 hp0 q0 hq0 k r e
theorem sum_map_share (g : PR → PR) : ∀ {L : List PR}, (∀ p ∈ L, (g p).share = p.share) → sumS (L.map g) = sumS L
  | [], _ => rfl
  | p :: r, h => by
    rw [List.map_cons, sumS_cons, sumS_cons, h p (by simp), sum_map_share g (fun q hq => h q (by simp [hq]))]
theorem Inv.exit (h : Inv tot th L) {p : PR} (hp : p ∈ L) (st : Int) (f : PR → Bool) : Inv tot th (moveP f (updP (exitP p st) L)) := by
  have hu := h.uniq
  have e : moveP f (updP (exitP p st) L) = L.map (fun q => if f (if q.id = p.id then exitP p st else q) then toOne (if q.id = p.id then exitP p st else q) else (if q.id = p.id then exitP p st else q)) := by
    unfold moveP updP
    rw [List.map_map]
    rfl
  rw [e]
  have hone : ∀ q ∈ L, ((if q.id = p.id then exitP p st else q : PR).id = q.id ∧ (if q.id = p.id then exitP p st else q : PR).forks = q.forks ∧ (if q.id = p.id then exitP p st else q : PR).share = q.share ∧ Fine (if q.id = p.id then exitP p st else q)) := fun q hq => by
    by_cases hqp : q.id = p.id
    · have := hu q hq p hp hqp
      subst this
      rw [if_pos rfl]
      have hf := h.fine q hq
      exact ⟨rfl, rfl, rfl, ⟨hf.lS, hf.lI, hf.lP, hf.lM, hf.f0, hf.f1, hf.t0, hf.t1, hf.s0, hf.s1, hf.id1, hf.idc⟩⟩
    · rw [if_neg hqp]
      exact ⟨rfl, rfl, rfl, h.fine q hq⟩
  have htwo : ∀ x : PR, Fine x → Fine (toOne x) := fun x hf => ⟨hf.lS, hf.lI, hf.lP, hf.lM, hf.f0, hf.f1, hf.t0, hf.t1, hf.s0, hf.s1, hf.id1, hf.idc⟩
  refine h.map _ (fun q hq => ?_) ?_
  · obtain ⟨h1, h2, h3, h4⟩ := hone q hq
    by_cases hf : f (if q.id = p.id then exitP p st else q) = true
    · simp only [hf, if_true]
      exact ⟨h1, h2, htwo _ h4⟩
    · simp only [hf]
      exact ⟨h1, h2, h4⟩
  · rw [sum_map_share _ (fun q hq => ?_)]
    · exact h.sum
    · obtain ⟨h1, h2, h3, h4⟩ := hone q hq
      by_cases hf : f (if q.id = p.id then exitP p st else q) = true
      · simp only [hf, if_true]
        exact h3
      · simp only [hf]
        exact h3
/-- The bytes of a child's name. -/
theorem childId_list {id : ByteArray} {n : Int} (h0 : 0 ≤ n) (h1 : n < 10) : (childId id n).data.toList = id.data.toList ++ 46 :: UInt8.ofNat (48 + n.toNat) :: [] := by
  rw [cidK_eq id h0 h1]
  unfold cidK
  simp [ByteArray.data_append]
theorem childId_size {id : ByteArray} {n : Int} (h0 : 0 ≤ n) (h1 : n < 10) : (childId id n).size = id.size + 2 := by
  unfold childId
  rw [ByteArray.size_append, ByteArray.size_append, digs_size n h0 h1]
  rfl
theorem nat_ofNat8 {n : Nat} (h : n < 256) : (UInt8.ofNat n).toNat = n := by
  rw [UInt8.toNat_ofNat']
  omega
theorem size_list (s : ByteArray) : s.data.toList.length = s.size := by simp
theorem Inv.fresh (h : Inv tot th L) {p : PR} (hp : p ∈ L) (hf : p.forks < 9) : ∀ q ∈ L, q.id ≠ childId p.id (p.forks + 1) := fun q hq e => by
  have hf0 := (h.fine p hp).f0
  have h1 := h.pre p hp q hq (UInt8.ofNat (48 + (p.forks + 1).toNat)) [] (by rw [e, childId_list (by omega) (by omega)])
  rw [nat_ofNat8 (by omega)] at h1
  omega
theorem Inv.fork (h : Inv tot th L) {p : PR} (hp : p ∈ L) {sh : Int} (h0 : 0 ≤ sh) (h1 : sh < p.share) (h2 : p.forks < 9) (h3 : p.id.size < 15) :
    Inv tot (th ++ [childId p.id (p.forks + 1)]) (putP (child p sh) (delP (childId p.id (p.forks + 1)) (updP (parentP p sh) L))) := by
  have hFp := h.fine p hp
  have hf0 := hFp.f0
  have hs1 := hFp.s1
  have hfr := h.fresh hp h2
  have hu := h.uniq
  have ed : delP (childId p.id (p.forks + 1)) (updP (parentP p sh) L) = updP (parentP p sh) L := delP_id (fun q hq e => by
    obtain ⟨q0, hq0, rfl⟩ := List.mem_map.1 hq
    refine hfr q0 hq0 ?_
    rw [← e]
    split
    · rename_i h; exact h
    · rfl)
  rw [ed]
  have hmem : ∀ q, q ∈ putP (child p sh) (updP (parentP p sh) L) → q = child p sh ∨ ∃ q0 ∈ L, q.id = q0.id ∧ q0.forks ≤ q.forks ∧ Fine q ∧ (q0.id = p.id → q.forks = p.forks + 1) := fun q hq => by
    rcases (mem_putP _).1 hq with rfl | hq
    · exact .inl rfl
    · obtain ⟨q0, hq0, rfl⟩ := List.mem_map.1 hq
      refine .inr ⟨q0, hq0, ?_⟩
      by_cases e : q0.id = (parentP p sh).id
      · have hqp := hu q0 hq0 p hp e
        subst hqp
        rw [if_pos e]
        exact ⟨rfl, by show q0.forks ≤ q0.forks + 1; omega, ⟨hFp.lS, hFp.lI, hFp.lP, hFp.lM, by show 0 ≤ q0.forks + 1; omega, by show q0.forks + 1 ≤ 9; omega, hFp.t0, hFp.t1, by show 0 ≤ q0.share - (sh + 1); omega, by show q0.share - (sh + 1) ≤ 1000000; omega, hFp.id1, hFp.idc⟩, fun _ => rfl⟩
      · rw [if_neg e]
        exact ⟨rfl, Int.le_refl _, h.fine q0 hq0, fun e2 => absurd e2 e⟩
  have hcl := childId_list (id := p.id) (n := p.forks + 1) (by omega) (by omega)
  have hcs := childId_size (id := p.id) (n := p.forks + 1) (by omega) (by omega)
  have hodd := h.odd p hp
  have hidc : ∀ (i : Nat) (hi : i < (childId p.id (p.forks + 1)).size), ((childId p.id (p.forks + 1))[i]'hi).toNat = 46 ∨ 49 ≤ ((childId p.id (p.forks + 1))[i]'hi).toNat ∧ ((childId p.id (p.forks + 1))[i]'hi).toNat ≤ 57 := fun i hi => by
    have hlt : i < (childId p.id (p.forks + 1)).data.toList.length := by rw [size_list]; exact hi
    have e : ((childId p.id (p.forks + 1))[i]'hi) = (childId p.id (p.forks + 1)).data.toList[i]'hlt := by
      rw [ByteArray.getElem_eq_getElem_data]; simp
    have hmem2 : (childId p.id (p.forks + 1)).data.toList[i]'hlt ∈ p.id.data.toList ++ 46 :: UInt8.ofNat (48 + (p.forks + 1).toNat) :: [] := by rw [← hcl]; exact List.getElem_mem _
    rw [e]
    generalize (childId p.id (p.forks + 1)).data.toList[i]'hlt = c at *
    rcases List.mem_append.1 hmem2 with hm | hm
    · obtain ⟨j, hj, rfl⟩ := List.getElem_of_mem hm
      have hj' : j < p.id.size := by rw [← size_list]; exact hj
      have := hFp.idc j hj'
      rw [ByteArray.getElem_eq_getElem_data] at this
      simpa using this
    · rcases List.mem_cons.1 hm with rfl | hm
      · exact .inl rfl
      · rw [List.mem_singleton.1 hm, nat_ofNat8 (by omega)]
        right
        omega
  refine ⟨?_, ?_, ?_, h.small, ?_, ?_, ?_⟩
  · refine List.Perm.trans ?_ ((perm_put (child p sh) _).map PR.id).symm
    rw [List.map_cons, updP_ids]
    exact (List.perm_append_comm.trans (List.Perm.refl _)).trans (h.perm.cons _)
  · refine (((perm_put (child p sh) _).map PR.id).nodup_iff).2 ?_
    rw [List.map_cons, updP_ids, List.nodup_cons]
    refine ⟨fun hm => ?_, h.nodup⟩
    obtain ⟨q, hq, e⟩ := List.mem_map.1 hm
    exact hfr q hq e
  · rw [sum_put, sum_upd (p := p) (p' := parentP p sh) rfl h.nodup hp, h.sum]
    show sh + 1 + (tot - p.share + (p.share - (sh + 1))) = tot
    omega
  · intro q hq
    rcases hmem q hq with rfl | ⟨q0, _, _, _, hF, _⟩
    · refine ⟨hFp.lS, hFp.lI, hFp.lP, hFp.lM, by show (0 : Int) ≤ 0; omega, by show (0 : Int) ≤ 9; omega, by show (0 : Int) ≤ 0; omega, by show (0 : Int) ≤ 9; omega, h0, by show sh ≤ 1000000; omega, by show (childId p.id (p.forks + 1)).size ≤ 15; omega, hidc⟩
    · exact hF
  · intro q hq
    rcases hmem q hq with rfl | ⟨q0, hq0, e, _⟩
    · show (childId p.id (p.forks + 1)).size % 2 = 1
      omega
    · rw [e]; exact h.odd q0 hq0
  · intro a ha b hb k r e
    rcases hmem a ha with rfl | ⟨a0, ha0, ea, hfa, _, hpa⟩
    · -- a is the new child: nobody's name goes on from it
      exfalso
      have hca : (child p sh).id.data.toList = p.id.data.toList ++ 46 :: UInt8.ofNat (48 + (p.forks + 1).toNat) :: [] := hcl
      rw [hca] at e
      rcases hmem b hb with rfl | ⟨b0, hb0, eb, _⟩
      · rw [hca] at e
        have := congrArg List.length e
        simp at this
      · rw [eb] at e
        have := h.pre p hp b0 hb0 (UInt8.ofNat (48 + (p.forks + 1).toNat)) (46 :: k :: r) (by rw [e]; simp)
        rw [nat_ofNat8 (by omega)] at this
        omega
    · rw [ea] at e
      rcases hmem b hb with rfl | ⟨b0, hb0, eb, _⟩
      · have hcb : (child p sh).id.data.toList = p.id.data.toList ++ 46 :: UInt8.ofNat (48 + (p.forks + 1).toNat) :: [] := hcl
        rw [hcb] at e
        have hlen := congrArg List.length e
        simp at hlen
        have hoa := h.odd a0 ha0
        by_cases hr : r = []
        · subst hr
          have h1 : p.id.data.toList = a0.id.data.toList ∧ (46 :: UInt8.ofNat (48 + (p.forks + 1).toNat) :: [] : List UInt8) = 46 :: k :: [] := List.append_inj e (by simp at hlen ⊢; omega)
          have hid : a0.id = p.id := by
            have := h1.1
            cases ha1 : a0.id
            cases hp1 : p.id
            rw [ha1, hp1] at this
            simp at this
            rw [this]
          rw [hpa hid]
          have hk : k = UInt8.ofNat (48 + (p.forks + 1).toNat) := by
            have h4 := h1.2
            injection h4 with _ h5
            injection h5 with h6 _
            exact h6.symm
          rw [hk, nat_ofNat8 (by omega)]
          omega
        · -- the name goes on from a further forebear
          obtain ⟨r', x, y, hr'⟩ : ∃ r' x y, r = r' ++ [x, y] := by
            have hl2 : 2 ≤ r.length := by
              have : 0 < r.length := List.length_pos_iff.2 hr
              omega
            refine ⟨r.take (r.length - 2), r[r.length - 2]'(by omega), r[r.length - 1]'(by omega), ?_⟩
            have e1 : r.drop (r.length - 2) = [r[r.length - 2]'(by omega), r[r.length - 1]'(by omega)] := by
              rw [List.drop_eq_getElem_cons (by omega), List.drop_eq_getElem_cons (by omega), List.drop_of_length_le (by omega)]
              congr 2
              congr 1
              omega
            rw [← e1, List.take_append_drop]
          subst hr'
          have e2 : p.id.data.toList ++ [46, UInt8.ofNat (48 + (p.forks + 1).toNat)] = (a0.id.data.toList ++ 46 :: k :: r') ++ [x, y] := by
            rw [show p.id.data.toList ++ [46, UInt8.ofNat (48 + (p.forks + 1).toNat)] = _ from e]
            simp
          have h1 := List.append_inj' e2 rfl
          have := h.pre a0 ha0 p hp k r' h1.1
          omega
      · rw [eb] at e
        have := h.pre a0 ha0 b0 hb0 k r e
        omega
theorem mem_le : ∀ {L : List PR} {p : PR}, (∀ q ∈ L, 0 ≤ q.share) → p ∈ L → p.share + 1 ≤ sumS L
  | [], _, _, h => by cases h
  | q :: r, p, hs, h => by
    have h0 := hs q (by simp)
    have h1 := sum_ge (L := r) (fun x hx => hs x (by simp [hx]))
    rw [sumS_cons]
    rcases List.mem_cons.1 h with h | h
    · rw [h]; omega
    · have := mem_le (fun x hx => hs x (by simp [hx])) h
      omega
theorem Inv.wait (h : Inv tot th L) {p c : PR} (hp : p ∈ L) (hc : c ∈ L) (hpc : p.id ≠ c.id) : Inv tot (th.filter fun x => !decide (x = c.id)) (delP c.id (updP (waitP p c) L)) := by
  have hu := h.uniq
  have hFp := h.fine p hp
  have hFc := h.fine c hc
  have hn1 : ((updP (waitP p c) L).map PR.id).Nodup := by rw [updP_ids]; exact h.nodup
  have hc1 : c ∈ updP (waitP p c) L := List.mem_map.2 ⟨c, hc, by rw [if_neg (fun e => hpc e.symm)]⟩
  have hsum : sumS (delP c.id (updP (waitP p c) L)) = tot := by
    rw [sum_del hn1 hc1, sum_upd (p := p) (p' := waitP p c) rfl h.nodup hp, h.sum]
    show tot - p.share + (p.share + (c.share + 1)) - (c.share + 1) = tot
    omega
  have hps := hFp.s0
  have hcs := hFc.s0
  have hmem : ∀ q, q ∈ delP c.id (updP (waitP p c) L) → (q = waitP p c) ∨ q ∈ L := fun q hq => by
    obtain ⟨q0, hq0, e⟩ := List.mem_map.1 (mem_delP.1 hq).1
    split at e
    · exact .inl e.symm
    · exact .inr (by rw [← e]; exact hq0)
  have hsh : ∀ q ∈ delP c.id (updP (waitP p c) L), 0 ≤ q.share := fun q hq => by
    rcases hmem q hq with rfl | hq
    · show 0 ≤ p.share + (c.share + 1); omega
    · exact (h.fine q hq).s0
  have hone : ∀ q ∈ delP c.id (updP (waitP p c) L), ∃ q0 ∈ L, q.id = q0.id ∧ q.forks = q0.forks := fun q hq => by
    rcases hmem q hq with rfl | hq
    · exact ⟨p, hp, rfl, rfl⟩
    · exact ⟨q, hq, rfl, rfl⟩
  have hids : (delP c.id (updP (waitP p c) L)).map PR.id = (L.map PR.id).filter fun x => !decide (x = c.id) := by
    rw [← updP_ids (waitP p c) L]
    unfold delP
    rw [List.filter_map]
    rfl
  have hle := h.small
  refine ⟨?_, ?_, hsum, h.small, ?_, ?_, ?_⟩
  · rw [hids]; exact h.perm.filter _
  · rw [hids]; exact h.nodup.filter _
  · intro q hq
    have h1 := mem_le hsh hq
    rw [hsum] at h1
    rcases hmem q hq with rfl | hq
    · exact ⟨hFp.lS, hFp.lI, hFp.lP, hFp.lM, hFp.f0, hFp.f1, hFp.t0, hFp.t1, by show 0 ≤ p.share + (c.share + 1); omega, by omega, hFp.id1, hFp.idc⟩
    · exact h.fine q hq
  · intro q hq
    obtain ⟨q0, hq0, e, _⟩ := hone q hq
    rw [e]; exact h.odd q0 hq0
  · intro a ha b hb k r e
    obtain ⟨a0, ha0, ea, fa⟩ := hone a ha
    obtain ⟨b0, hb0, eb, _⟩ := hone b hb
    rw [ea, eb] at e
    rw [fa]
    exact h.pre a0 ha0 b0 hb0 k r e
theorem Inv.look (h : Inv tot th L) {x : ByteArray} (hx : x ∈ th) : ∃ p ∈ L, p.id = x ∧ get L x = some p := by
  obtain ⟨p, hp, e⟩ := List.mem_map.1 ((h.perm.mem_iff).1 hx)
  exact ⟨p, hp, e, by rw [← e]; exact get_of_mem h.uniq hp⟩
def sumT (L : List PR) (l : List ByteArray) : Int := (l.map fun x => match get L x with | some p => p.share + 1 | none => 0).sum
theorem Inv.total (h : Inv tot th L) : sumT L th = tot := by
  unfold sumT
  rw [perm_sum h.perm, List.map_map, ← h.sum]
  unfold sumS
  congr 1
  apply List.map_congr_left
  intro p hp
  show (match get L p.id with | some p => p.share + 1 | none => 0) = _
  rw [get_of_mem h.uniq hp]
theorem sumT_step {k : Nat} (hk : k < th.length) {p : PR} (hg : get L th[k] = some p) : sumT L (th.take (k + 1)) = sumT L (th.take k) + (p.share + 1) := by
  unfold sumT
  rw [List.take_succ_eq_append_getElem hk, List.map_append, List.sum_append]
  simp [hg]
theorem sumT_split (k : Nat) : sumT L th = sumT L (th.take k) + sumT L (th.drop k) := by
  unfold sumT
  rw [← List.sum_append, ← List.map_append, List.take_append_drop]
theorem sumT_nonneg : ∀ (l : List ByteArray), (∀ x ∈ l, ∀ p, get L x = some p → 0 ≤ p.share) → 0 ≤ sumT L l
  | [], _ => by simp [sumT]
  | x :: r, h => by
    have h1 := sumT_nonneg r (fun y hy => h y (by simp [hy]))
    unfold sumT at *
    rw [List.map_cons, List.sum_cons]
    cases hg : get L x with
    | none => simp only; omega
    | some p =>
      have := h x (by simp) p hg
      simp only
      omega
theorem Inv.part (h : Inv tot th L) (k : Nat) : 0 ≤ sumT L (th.take k) ∧ sumT L (th.take k) ≤ tot := by
  have hp : ∀ x, ∀ p, get L x = some p → 0 ≤ p.share := fun x p hg => (h.fine p (get_mem hg).1).s0
  have h1 := sumT_nonneg (L := L) (th.take k) (fun x _ p hg => hp x p hg)
  have h2 := sumT_nonneg (L := L) (th.drop k) (fun x _ p hg => hp x p hg)
  have h3 := h.total
  rw [sumT_split k] at h3
  omega
theorem inv_first (share : Int) (h0 : 0 ≤ share) (h1 : share ≤ 99) : Inv (share + 1) [oneB] [firstP share] where
  perm := List.Perm.refl _
  nodup := by simp
  sum := by simp [sumS, firstP]
  small := by omega
  fine := fun p hp => by rw [List.mem_singleton.1 hp]; exact fine_first share h0 (by omega)
  odd := fun p hp => by rw [List.mem_singleton.1 hp]; rfl
  pre := fun p hp q hq k r e => by
    rw [List.mem_singleton.1 hp, List.mem_singleton.1 hq] at e
    have := congrArg List.length e
    simp at this
end
end Go.Proofs.YtmphnoabkmoafaaGreatDoor
