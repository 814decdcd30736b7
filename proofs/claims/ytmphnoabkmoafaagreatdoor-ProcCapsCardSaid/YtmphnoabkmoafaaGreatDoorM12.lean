/- What is put into the table, what is taken out; a look-up's callers: of, New. Mask, Pending. -/
import Derived.Test.YtmphnoabkmoafaaGreatDoorM11
namespace Go.Proofs.YtmphnoabkmoafaaGreatDoor
open Go.RowKit Go.Maps
open Go.WideMaps (keyOf_string_mk)
open Go.ChangeMaps (setBlock heap_setBlock_same heap_setBlock_other)
open Go.WideElems (Fit rd rg pl rd_val elemAt)
set_option linter.unusedVariables false
variable {uu0 : Unit} [Base uu0]
theorem own_tight {H : Type} {P : Program} {k : TypeId} {R : Value → Option (DataW H × List MemPlace)} {b n : Nat} {D : DataW H} {w : World} (h : w.ownsMap P k R b n D) : w.ownsMap P k R b (Maps.size D) D := by
  obtain ⟨es, clock, hb, F, hs, rfl⟩ := h
  refine ⟨es, clock, hb, F, ?_, rfl⟩
  rw [Maps.size_eq, length_sorted]
  simp
section
variable {w w' : World} {B T M : Nat} {bl : ByteArray → Nat} {L : List PR}
theorem size_encT (bl : ByteArray → Nat) (L : List PR) : Maps.size (encT bl L) = L.length := by simp [encT, encP, Maps.size]
theorem mem_delP {id : ByteArray} {q : PR} : q ∈ delP id L ↔ q ∈ L ∧ q.id ≠ id := by simp [delP]
/-- What lies behind a write into the map alone. -/
theorem TabAt.turned (h : TabAt w B T M bl L) (bl' : ByteArray → Nat) (L' : List PR) (hown : w'.ownsMap Tryz.prog 9 readP M L'.length (encT bl' L')) (hg : w.mapTurned w' M)
    (hp : ∀ p ∈ L', ∃ vS vI vP vM, ProcAt w (bl' p.id) p vS vI vP vM) (hi : ∀ p ∈ L', ∀ q ∈ L', bl' p.id = bl' q.id → p.id = q.id) (hl : ∀ p ∈ L', B ≤ bl' p.id) : TabAt w' B T M bl' L' ∧ Bel B w w' ∧ w'.heap.size = w.heap.size := by
  have hgr := hg.grown
  obtain ⟨es, clock, es', clock', hM, rfl⟩ := hg
  refine ⟨⟨?_, hown, ?_, hi, h.lowT, h.lowM, hl, h.lowB⟩, ⟨⟨hgr.os, hgr.tape, hgr.output, hgr.size, fun k hk => ?_⟩, Still.of_grown hgr (fun cs t f e => by rw [hM] at e; cases e), (Keep3.of_grown hgr hM).low⟩, by simp [setBlock]⟩
  · rw [hgr.block T h.ltT (by rintro ⟨⟩; rw [h.tab] at hM; cases hM)]; exact h.tab
  · intro p hp'
    obtain ⟨a, b, c, d, hh⟩ := hp p hp'
    exact ⟨a, b, c, d, hh.keep (Keep3.of_grown hgr hM) (hgr.block _ (Array.getElem?_eq_some_iff.1 hh.row).1 (by rintro e; cases e; rw [hh.row] at hM; cases hM))⟩
  · have hlow := h.lowM
    by_cases hkM : k < w.heap.size
    · exact hgr.block k hkM (by rintro ⟨⟩; omega)
    · rw [Array.getElem?_eq_none (by rw [show (setBlock w M (Obj.map es' clock')).heap.size = w.heap.size by simp [setBlock]]; omega), Array.getElem?_eq_none (by omega)]
theorem TabAt.put (h : TabAt w B T M bl L) (p : PR) (b : Nat) (hb : ∃ vS vI vP vM, ProcAt w b p vS vI vP vM) (hB : B ≤ b) (hfresh : ∀ q ∈ L, bl q.id ≠ b) (hlen : L.length < maxLen) (hid : p.id.size ≤ maxLen) :
    ∃ w', (Instr.mapUpdate 69 (.map (some M)) (.string p.id) (ptr b)).run Tryz.prog w = .ok () w' ∧ TabAt w' B T M (fun k => if k = p.id then b else bl k) (putP p (delP p.id L)) ∧ Bel B w w' ∧ w'.heap.size = w.heap.size := by
  obtain ⟨w', hrun, hown, hg⟩ := h.map.store law9 und67 hlen (keyOf_string_mk und9 hid) (readP_ptr b)
  refine ⟨w', hrun, ?_⟩
  have hg0 : get (delP p.id L) p.id = none := by
    unfold get
    rw [List.find?_eq_none]
    intro q hq
    simpa using (mem_delP.1 hq).2
  have e : (encT bl L).put (keyL p.id) (.lit (.int .i64 b)) = encT (fun k => if k = p.id then b else bl k) (putP p (delP p.id L)) := by
    rw [← put_enc bl b p hg0, ← del_enc]
    show DataW.map _ = DataW.map _
    rw [List.filter_filter]
    simp
  have hown2 := own_tight hown
  unfold keyL at e
  rw [e, size_encT] at hown2
  refine h.turned _ _ hown2 hg (fun q hq => ?_) (fun q hq r hr e => ?_) (fun q hq => ?_)
  · rcases (mem_putP p).1 hq with rfl | hq
    · simpa using hb
    · have := mem_delP.1 hq
      rw [if_neg this.2]
      exact h.procs q this.1
  · rcases (mem_putP p).1 hq with rfl | hq <;> rcases (mem_putP _).1 hr with rfl | hr
    · rfl
    · have k := mem_delP.1 hr
      rw [if_pos rfl, if_neg k.2] at e
      exact absurd e.symm (hfresh r k.1)
    · have k := mem_delP.1 hq
      rw [if_pos rfl, if_neg k.2] at e
      exact absurd e (hfresh q k.1)
    · have k := mem_delP.1 hq
      have k' := mem_delP.1 hr
      rw [if_neg k'.2, if_neg k.2] at e
      exact h.inj q k.1 r k'.1 e
  · rcases (mem_putP p).1 hq with rfl | hq
    · simpa using hB
    · have := mem_delP.1 hq
      rw [if_neg this.2]
      exact h.lowP q this.1
theorem TabAt.del (h : TabAt w B T M bl L) (id : ByteArray) (hid : id.size ≤ maxLen) (ty : TypeId) :
    ∃ w', (Builtin.delete_ #[69, 9] ty #[.map (some M), .string id]).run Tryz.prog w = .ok (.tuple #[]) w' ∧ TabAt w' B T M bl (delP id L) ∧ Bel B w w' ∧ w'.heap.size = w.heap.size ∧ (∀ g, g ≠ M → w'.heap[g]? = w.heap[g]?) := by
  obtain ⟨w', hrun, hown, hg⟩ := h.map.drop law9 und67 (keyOf_string_mk und9 hid) ty
  have hown2 := own_tight hown
  have e := del_enc bl L id
  unfold keyL at e
  rw [e, size_encT] at hown2
  obtain ⟨k1, k2, k3⟩ := h.turned _ _ hown2 hg (fun q hq => h.procs q (mem_delP.1 hq).1) (fun q hq r hr e => h.inj q (mem_delP.1 hq).1 r (mem_delP.1 hr).1 e) (fun q hq => h.lowP q (mem_delP.1 hq).1)
  refine ⟨w', hrun, k1, k2, k3, fun g hg' => ?_⟩
  obtain ⟨es, clock, es', clock', hM, rfl⟩ := hg
  exact heap_setBlock_other hM _ hg'
end
/-- Errno of a look-up for one that lives. -/
def ofCode (L : List PR) (id : ByteArray) : Int := match get L id with | none => 61 | some p => if p.exited then 50 else 0
def ofPtr (bl : ByteArray → Nat) (L : List PR) (id : ByteArray) : Value := match get L id with | none => .pointer none | some p => if p.exited then .pointer none else ptr (bl p.id)
set_option maxRecDepth 100000 in
theorem of_any (B T M : Nat) (bl : ByteArray → Nat) (L : List PR) (id : ByteArray) (w : World) (h : TabAt w B T M bl L) (hid : id.size ≤ maxLen) :
    Calls Tryz.prog 23 #[ptr T, .string id] w fun e w' => e = .returned (.tuple #[ofPtr bl L id, .int .i64 (ofCode L id)]) ∧ w' = w := by
  have hrun := h.lookup id hid
  have c0 := h.cellT
  unfold ofPtr ofCode
  unfold ptrOf at hrun
  cases hg : get L id with
  | none =>
    rw [hg] at hrun
    simp only at hrun ⊢
    unfold ptr
    go_enter Tryz.func23, Tryz.ntmps23
    go_wp2
    go_ret2
    exact ⟨rfl, rfl⟩
  | some p =>
    rw [hg] at hrun
    simp only at hrun ⊢
    obtain ⟨a, b, c, d, hp⟩ := h.procs p (get_mem hg).1
    have c8 : w.cell? ⟨bl p.id, 8, none⟩ = some (.bool p.exited) := hp.cell 8
    unfold ptr at hrun ⊢
    obtain ⟨g, hg1⟩ : ∃ g, g = bl p.id := ⟨_, rfl⟩
    rw [← hg1] at hrun c8 ⊢
    obtain ⟨x, hx⟩ : ∃ x, x = p.exited := ⟨_, rfl⟩
    rw [← hx] at c8 ⊢
    clear hp hx hg1 hg
    cases x
    · go_enter Tryz.func23, Tryz.ntmps23
      go_wp2
      go_ret2
      exact ⟨rfl, rfl⟩
    · go_enter Tryz.func23, Tryz.ntmps23
      go_wp2
      go_ret2
      exact ⟨rfl, rfl⟩
/-- The first process. -/
def firstP (share : Int) : PR := ⟨⟨#[49]⟩, ⟨#[]⟩, [], [], [], [], share, 0, false, 0, 0, 0, 0⟩
set_option maxRecDepth 100000 in
theorem new_ok (share : Int) (w : World) (h0 : 0 ≤ share) (h1 : share ≤ 99) (hlo : Base.lo ≤ w.heap.size) :
    Calls Tryz.prog 6 #[.int .i64 share] w fun e w' => ∃ (T M : Nat) (bl : ByteArray → Nat), e = .returned (.tuple #[ptr T, .int .i64 0]) ∧ TabAt w' w.heap.size T M bl [firstP share] ∧ Below w.heap.size w w' := by
  have d1 : decide (share < 0) = false := by simp; omega
  have d2 : decide (share > 99) = false := by simp; omega
  have hmm := @run_makeMap Tryz.prog
  obtain ⟨W, hW⟩ : ∃ W, W = (w.alloc (.map #[] 0)).alloc (.cells ((firstP share).cells (.slice none 0 0) (.slice none 0 0) (.slice none 0 0) (.slice none 0 0)) 68) := ⟨_, rfl⟩
  have hs1 : W.heap.size = w.heap.size + 2 := by rw [hW]; simp
  have hown : W.ownsMap Tryz.prog 9 readP w.heap.size 0 (.map []) := by rw [hW]; exact (World.ownsMap_made w Tryz.prog 9 readP).alloc _
  have hrow : W.heap[w.heap.size + 1]? = some (.cells ((firstP share).cells (.slice none 0 0) (.slice none 0 0) (.slice none 0 0) (.slice none 0 0)) 68 (0, 0)) := by
    have := heap_alloc_new (w.alloc (.map #[] 0)) (.cells ((firstP share).cells (.slice none 0 0) (.slice none 0 0) (.slice none 0 0) (.slice none 0 0)) 68)
    rw [hW]
    simpa using this
  have hbW : Below w.heap.size w W := by rw [hW]; exact ((Below.refl _ _).alloc (Nat.le_refl _) _).alloc (by simp) _
  obtain ⟨W2, hrun, hown2, hg2⟩ := hown.store law9 und67 (by unfold maxLen; omega) (keyOf_string_mk und9 (by unfold maxLen; decide)) (readP_ptr (w.heap.size + 1)) (key := .string ⟨#[49]⟩)
  unfold ptr at hrun ⊢
  have hs2 : W2.heap.size = w.heap.size + 2 := by obtain ⟨_, _, _, _, _, rfl⟩ := hg2; simp [setBlock, hs1]
  rw [hW] at hrun
  unfold PR.cells firstP at hrun
  simp only at hrun
  go_enter Tryz.func6, Tryz.ntmps6
  go_wp2
  go_ret2
  have hb2 : Below w.heap.size w W2 := hbW.grown hg2.grown (by omega) (fun k hk => by cases hk; exact Nat.le_refl _)
  have hM2 : W2.heap[w.heap.size + 1]? = some (.cells ((firstP share).cells (.slice none 0 0) (.slice none 0 0) (.slice none 0 0) (.slice none 0 0)) 68 (0, 0)) := by
    rw [hg2.grown.block _ (by omega) (by simp)]; exact hrow
  refine ⟨w.heap.size + 2, rfl, ⟨w.heap.size, fun _ => w.heap.size + 1, by have := heap_alloc_new W2 (.cells #[Value.map (some w.heap.size)] 71); rw [hs2] at this; exact this, ?_, ?_, ?_, by omega, Nat.le_refl _, fun _ _ => by omega, hlo⟩, hb2.alloc (by omega) _⟩
  · have e := own_tight hown2
    exact e.alloc _
  · intro p hp
    rw [List.mem_singleton.1 hp]
    exact ⟨_, _, _, _, (Below.heap_alloc _ _ _ (by omega)).trans hM2, IntsAt.nil _, IntsAt.nil _, IntsAt.nil _, IntsAt.nil _⟩
  · intro p hp q hq _
    rw [List.mem_singleton.1 hp, List.mem_singleton.1 hq]
end Go.Proofs.YtmphnoabkmoafaaGreatDoor
namespace Go.Proofs.YtmphnoabkmoafaaGreatDoor
open Go.RowKit Go.Maps
set_option linter.unusedVariables false
variable {uu0 : Unit} [Base uu0]
section
variable {L : List PR} {id : ByteArray} {bl : ByteArray → Nat}
/-- One that lives. -/
theorem of_live {p : PR} (h : get L id = some p) (hx : p.exited = false) : ofPtr bl L id = ptr (bl p.id) ∧ ofCode L id = 0 := by
  unfold ofPtr ofCode
  rw [h]
  simp [hx]
theorem of_cases (bl : ByteArray → Nat) (L : List PR) (id : ByteArray) : (∃ p, get L id = some p ∧ p.exited = false ∧ ofPtr bl L id = ptr (bl p.id) ∧ ofCode L id = 0) ∨ (ofPtr bl L id = .pointer none ∧ ofCode L id ≠ 0 ∧ (ofCode L id = 61 ∨ ofCode L id = 50)) := by
  cases hg : get L id with
  | none => right; unfold ofPtr ofCode; rw [hg]; simp
  | some p =>
    cases hx : p.exited
    · left; exact ⟨p, rfl, hx, of_live hg hx⟩
    · right; unfold ofPtr ofCode; rw [hg]; simp [hx]
end
def maskRes (L : List PR) (id : ByteArray) : Int := match get L id with | none => 0 | some p => if p.exited then 0 else p.mask
def maskT (L : List PR) (id : ByteArray) (m : Int) : List PR := match get L id with | none => L | some p => if p.exited then L else updP { p with mask := m } L
set_option maxRecDepth 100000 in
theorem mask_any (B T M : Nat) (bl : ByteArray → Nat) (L : List PR) (id : ByteArray) (m : Int) (w : World) (h : TabAt w B T M bl L) (hid : id.size ≤ maxLen) :
    Calls Tryz.prog 35 #[ptr T, .string id, .int .i64 m] w fun e w' => e = .returned (.tuple #[.int .i64 (maskRes L id), .int .i64 (ofCode L id)]) ∧ TabAt w' B T M bl (maskT L id m) ∧ Bel B w w' := by
  have ho := of_any B T M bl L id w h hid
  rcases of_cases bl L id with ⟨p, hg, hx, e1, e2⟩ | ⟨e1, e2, e3⟩
  · rw [e1, e2] at ho
    have er : maskRes L id = p.mask := by unfold maskRes; rw [hg]; simp [hx]
    have et : maskT L id m = updP { p with mask := m } L := by unfold maskT; rw [hg]; simp [hx]
    rw [e2, er, et]
    obtain ⟨a, b, c, d, hp⟩ := h.procs p (get_mem hg).1
    have c11 : w.cell? ⟨bl p.id, 11, none⟩ = some (.int .i64 p.mask) := hp.cell 11
    have f11 : w.frozen? ⟨bl p.id, 11, none⟩ = false := hp.frozen 11
    have hset := h.set (p' := { p with mask := m }) (get_mem hg).1 rfl 11 (.int .i64 m) (fun a b c d => rfl) rfl rfl rfl rfl
    have hlow := h.lowP p (get_mem hg).1
    have hrow66 := hp.row
    generalize bl p.id = g at *
    unfold ptr at *
    go_enter Tryz.func35, Tryz.ntmps35
    go_wp2_with (go_at_call 23; refine ho.mono ?_; rintro e w1 ⟨rfl, rfl⟩)
    go_ret2
    exact ⟨rfl, hset, (Bel.refl _ _).set66 hrow66 hlow _ h.lowB⟩
  · rw [e1] at ho
    have er : maskRes L id = 0 := by unfold maskRes; unfold ofCode at e3 e2; cases hg : get L id with | none => rfl | some p => (rw [hg] at e2; simp only at e2 ⊢; split <;> simp_all)
    have et : maskT L id m = L := by unfold maskT; unfold ofCode at e3 e2; cases hg : get L id with | none => rfl | some p => (rw [hg] at e2; simp only at e2 ⊢; split <;> simp_all)
    rw [er, et]
    generalize ofCode L id = c at *
    unfold ptr at *
    go_enter Tryz.func35, Tryz.ntmps35
    go_wp2_with (go_at_call 23; refine ho.mono ?_; rintro e w1 ⟨rfl, rfl⟩)
    go_ret2
    exact ⟨rfl, h, Bel.refl _ _⟩
end Go.Proofs.YtmphnoabkmoafaaGreatDoor
