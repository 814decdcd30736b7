/- What a call of the table tells, and what table comes of it: in plain Lean. Signal, whatever it meets. -/
import Derived.Test.YtmphnoabkmoafaaGreatDoorM28
import Derived.Test.YtmphnoabkmoafaaGreatDoorM21
import Derived.Test.YtmphnoabkmoafaaGreatDoorM29
import Derived.Test.YtmphnoabkmoafaaGreatDoorM26
import Derived.Test.YtmphnoabkmoafaaGreatDoorM24
import Derived.Test.YtmphnoabkmoafaaGreatDoorM17
import Derived.Test.YtmphnoabkmoafaaGreatDoorM23
namespace Go.Proofs.YtmphnoabkmoafaaGreatDoor
open Go.RowKit Go.Maps
set_option linter.unusedVariables false
variable {uu0 : Unit} [Base uu0]
/-- A call, as plain data. -/
structure OpP where
  kind : Int
  a : Int
  who : ByteArray
  to : ByteArray
  S : List Int
  I : List Int
  P : List Int
  M : List Int
def emp : ByteArray := ⟨#[]⟩
def yesB : ByteArray := ⟨#[121, 101, 115]⟩
/-- What is told: a number, a text, an error. -/
structure Tl where
  n : Int
  s : ByteArray
  e : Int
def errT (e : Int) : Tl := ⟨0, emp, e⟩
def forkC (p : PR) (id : ByteArray) (sh : Int) : Int := if sh < 0 then 1 else if p.share ≤ sh ∨ 9 ≤ p.forks ∨ 15 ≤ id.size then 65 else 0
def forkT (p : PR) (id : ByteArray) (sh : Int) (L : List PR) : List PR := putP (child p sh) (delP (childId id (p.forks + 1)) (updP (parentP p sh) L))
def forkA (p : PR) (id : ByteArray) (sh : Int) (L : List PR) : Tl × List PR := if forkC p id sh = 0 then (⟨0, childId id (p.forks + 1), 0⟩, forkT p id sh L) else (errT (forkC p id sh), L)
def exitA (p : PR) (id : ByteArray) (st : Int) (L : List PR) : Tl × List PR := if id = oneB then (errT 1, L) else (errT 0, moveP (childOf id) (updP (exitP p st) L))
def waitA (p : PR) (id : ByteArray) (L : List PR) : Tl × List PR := match waitFind L id p with
  | some c => (⟨c.status, c.id, 0⟩, delP c.id (updP (waitP p c) L))
  | none => (errT (waitCode L id p), L)
def tagA (p : PR) (L : List PR) : Tl × List PR := if tagOk p then (⟨tagN p, emp, 0⟩, updP (tagP p) L) else (errT 65, L)
def changeA (p : PR) (id : ByteArray) (lS lI : List Int) (L : List PR) : Tl × List PR :=
  if (setL lS && setL lI) = false then (errT 1, L) else if mayChange p lS lI then (errT 0, moveP (leaves id lS lI) (updP (relP p lS lI) L)) else (errT 76, L)
def dropA (p : PR) (lP lM : List Int) (L : List PR) : Tl × List PR := if (setL lP && setL lM) = false then (errT 1, L) else (errT 0, updP (lessP p lP lM) L)
def giveA (p : PR) (lP lM : List Int) (L : List PR) : Tl × List PR :=
  if (setL lP && setL lM) = false then (errT 1, L) else if (joinOk p.Plus lP && joinOk p.Minus lM) then (errT 0, updP (moreP p lP lM) L) else (errT 65, L)
/-- Something done to another one, as far as it may be. -/
def reachA (p : PR) (to : ByteArray) (f : PR → List PR) (L : List PR) : Tl × List PR := match get L to with
  | none => (errT 0, L)
  | some q => if q.exited then (errT 0, L) else if flowL p.S p.I q.S q.I then (errT 0, f q) else if flowL q.S q.I p.S p.I then (errT 70, L) else (errT 0, L)
def grantF (lP lM : List Int) (L : List PR) (q : PR) : List PR := if (joinOk q.Plus lP && joinOk q.Minus lM) then updP (moreP q lP lM) L else L
def grantA (p : PR) (to : ByteArray) (lP lM : List Int) (L : List PR) : Tl × List PR :=
  if (validB to && (setL lP && setL lM)) = false then (errT 1, L) else if (subL lP p.Plus && subL lM p.Minus) = false then (errT 76, L) else reachA p to (grantF lP lM L) L
def signalA (p : PR) (to : ByteArray) (sig : Int) (L : List PR) : Tl × List PR :=
  if ¬ (1 ≤ sig ∧ sig ≤ 15) ∨ validB to = false then (errT 1, L) else reachA p to (fun q => updP (sigP q sig.toNat) L) L
def maskA (p : PR) (m : Int) (L : List PR) : Tl × List PR := (⟨p.mask, emp, 0⟩, updP { p with mask := m } L)
/-- The least signal that is pending and not held back. -/
def leastOf (p : PR) : Option Nat := (List.range 16).find? fun k => (takeN p.pending.toNat p.mask).testBit k
def pendA (p : PR) (L : List PR) : Tl × List PR := match leastOf p with
  | some s => (⟨s, yesB, 0⟩, updP (pendP p s) L)
  | none => (errT 0, L)
def isAct (k : Int) : Bool := decide (0 ≤ k) && decide (k ≤ 9)
def actLive (o : OpP) (p : PR) (L : List PR) : Tl × List PR :=
  if o.kind = 0 then forkA p o.who o.a L else if o.kind = 1 then exitA p o.who o.a L else if o.kind = 2 then waitA p o.who L else if o.kind = 3 then tagA p L
  else if o.kind = 4 then changeA p o.who o.S o.I L else if o.kind = 5 then dropA p o.P o.M L else if o.kind = 6 then grantA p o.to o.P o.M L
  else if o.kind = 7 then giveA p o.P o.M L else if o.kind = 8 then signalA p o.to o.a L else if o.kind = 9 then maskA p o.a L else pendA p L
def act (o : OpP) (L : List PR) : Tl × List PR := match get L o.who with
  | none => (errT (if isAct o.kind then 61 else 0), L)
  | some p => if p.exited then (errT (if isAct o.kind then 50 else 0), L) else actLive o p L
end Go.Proofs.YtmphnoabkmoafaaGreatDoor
namespace Go.Proofs.YtmphnoabkmoafaaGreatDoor
open Go.RowKit Go.Maps
set_option linter.unusedVariables false
variable {uu0 : Unit} [Base uu0]
set_option maxRecDepth 100000 in
set_option maxHeartbeats 1000000 in
/-- One that is there, but must not be reached. -/
theorem reach_flow (B T M : Nat) (bl : ByteArray → Nat) (L : List PR) (to : ByteArray) (F : Value) (w : World) (p q : PR) (h : TabAt w B T M bl L) (hid : to.size ≤ maxLen) (hp : p ∈ L) (hg : get L to = some q) (hx : q.exited = false)
    (hFp : Fine p) (hFq : Fine q) (hfl : flowL p.S p.I q.S q.I = false) :
    Calls Tryz.prog 70 #[ptr T, ptr (bl p.id), .string to, F] w fun e w' => e = .returned (.int .i64 (if flowL q.S q.I p.S p.I then 70 else 0)) ∧ TabAt w' B T M bl L ∧ Bel B w w' := by
  obtain ⟨hqL, hqid⟩ := get_mem hg
  have hrun := h.lookup to hid
  have c0 := h.cellT
  unfold ptrOf at hrun
  rw [hg] at hrun
  simp only at hrun
  obtain ⟨a, b, c, d, hpp⟩ := h.procs p hp
  obtain ⟨a', b', c', d', hqq⟩ := h.procs q hqL
  obtain ⟨ao0, m0, q0, hv0⟩ := hpp.hS.shape3
  obtain ⟨ao1, m1, q1, hv1⟩ := hpp.hI.shape3
  obtain ⟨ao2, m2, q2, hv2⟩ := hqq.hS.shape3
  obtain ⟨ao3, m3, q3, hv3⟩ := hqq.hI.shape3
  subst hv0 hv1 hv2 hv3
  have c8 : w.cell? ⟨bl q.id, 8, none⟩ = some (.bool false) := by rw [hqq.cell 8, ← hx]; rfl
  have hpl := h.ltP hp
  have hql := h.ltP hqL
  have K1 : Hid (∀ W', Below w.heap.size w W' → Calls Tryz.prog 63 #[.agg #[.slice ao0 m0 q0, .slice ao1 m1 q1], .agg #[.slice ao2 m2 q2, .slice ao3 m3 q3]] W' fun e w' => e = .returned (.bool false) ∧ Below W'.heap.size W' w') := fun W' k => by
    refine (flows_any _ _ _ _ p.S p.I q.S q.I W' (hpp.hS.below k (Nat.le_refl _)) (hpp.hI.below k (Nat.le_refl _)) (hqq.hS.below k (Nat.le_refl _)) (hqq.hI.below k (Nat.le_refl _)) hFp.lS hFp.lI hFq.lS hFq.lI).mono ?_
    rintro e w' ⟨rfl, hb⟩
    exact ⟨by rw [← hfl]; rfl, hb⟩
  have K2 : Hid (∀ W', Below w.heap.size w W' → Calls Tryz.prog 63 #[.agg #[.slice ao2 m2 q2, .slice ao3 m3 q3], .agg #[.slice ao0 m0 q0, .slice ao1 m1 q1]] W' fun e w' => e = .returned (.bool (flowL q.S q.I p.S p.I)) ∧ Below W'.heap.size W' w') := fun W' k => by
    refine (flows_any _ _ _ _ q.S q.I p.S p.I W' (hqq.hS.below k (Nat.le_refl _)) (hqq.hI.below k (Nat.le_refl _)) (hpp.hS.below k (Nat.le_refl _)) (hpp.hI.below k (Nat.le_refl _)) hFq.lS hFq.lI hFp.lS hFp.lI).mono ?_
    rintro e w' ⟨rfl, hb⟩
    exact ⟨rfl, hb⟩
  have l2 : ∀ j : Lat w, j.w.cell? ⟨bl p.id, 2, none⟩ = some (.slice ao0 m0 q0) := fun j => (j.h.cell (p := ⟨bl p.id, 2, none⟩) hpl).trans (hpp.cell 2)
  have l3 : ∀ j : Lat w, j.w.cell? ⟨bl p.id, 3, none⟩ = some (.slice ao1 m1 q1) := fun j => (j.h.cell (p := ⟨bl p.id, 3, none⟩) hpl).trans (hpp.cell 3)
  have r2 : ∀ j : Lat w, j.w.cell? ⟨bl q.id, 2, none⟩ = some (.slice ao2 m2 q2) := fun j => (j.h.cell (p := ⟨bl q.id, 2, none⟩) hql).trans (hqq.cell 2)
  have r3 : ∀ j : Lat w, j.w.cell? ⟨bl q.id, 3, none⟩ = some (.slice ao3 m3 q3) := fun j => (j.h.cell (p := ⟨bl q.id, 3, none⟩) hql).trans (hqq.cell 3)
  have HT := Lib.hid h
  have HB : Hid (B ≤ w.heap.size) := by have := h.lowT; have := h.ltT; show _ ≤ _; omega
  obtain ⟨fl, hf⟩ : ∃ fl, fl = flowL q.S q.I p.S p.I := ⟨_, rfl⟩
  rw [← hf] at K2 ⊢
  unfold ptr at *
  generalize bl p.id = g at *
  generalize bl q.id = k at *
  clear h hg hpp hqq hfl hx hpl hql hqL hqid hp hf
  go_enter Tryz.func70, Tryz.ntmps70
  go_wp2
  refine wp_region_lat (W := w) (by kernel_rfl) (by kernel_rfl) (Below.refl _ _) ?_
  iterate 12 (go_big_quiet_step (with_reducible exact Lat.call (K1.out _ (Lat.h _))))
  refine wpQuiet_nil ?_
  rintro _ ⟨j, rfl⟩
  go_wp2
  refine wp_region_lat (W := w) (by kernel_rfl) (by kernel_rfl) j.h ?_
  iterate 12 (go_big_quiet_step (with_reducible exact Lat.call (K2.out _ (Lat.h _))))
  refine wpQuiet_nil ?_
  rintro _ ⟨i, rfl⟩
  have hT := HT.out.below i.h
  have hB := i.h.bel HB.out
  clear l2 l3 r2 r3
  cases fl
  · go_wp2
    go_ret
    exact ⟨rfl, hT, hB⟩
  · go_wp2
    go_ret
    exact ⟨rfl, hT, hB⟩
set_option maxRecDepth 100000 in
set_option maxHeartbeats 1000000 in
/-- A signal, whatever reach does with it. -/
theorem signal_to (B T M : Nat) (bl : ByteArray → Nat) (L L' : List PR) (id to : ByteArray) (s : Nat) (code : Int) (w : World) (p : PR) (h : TabAt w B T M bl L) (hid : id.size ≤ maxLen) (hto : to.size ≤ maxLen) (hgp : get L id = some p) (hxp : p.exited = false) (h1 : 1 ≤ s) (h2 : s ≤ 15) (hv : validB to = true)
    (hr : ∀ (W : World) (bx : Nat), TabAt W B T M bl L → W.cell? ⟨bx, 0, none⟩ = some (.int .i64 s) → bx < W.heap.size → Calls Tryz.prog 70 #[ptr T, ptr (bl p.id), .string to, .func (.func 73) #[] #[ptr bx]] W fun e w' => e = .returned (.int .i64 code) ∧ TabAt w' B T M bl L' ∧ Bel B W w') :
    Calls Tryz.prog 34 #[ptr T, .string id, .string to, .int .i64 s] w fun e w' => e = .returned (.int .i64 code) ∧ TabAt w' B T M bl L' ∧ Bel B w w' := by
  obtain ⟨hpL, hpid⟩ := get_mem hgp
  obtain ⟨W, hW⟩ : ∃ W, W = w.alloc (.cells #[.int .i64 s] 3) := ⟨_, rfl⟩
  have bW : Below w.heap.size w W := by rw [hW]; exact (Below.refl _ _).alloc (Nat.le_refl _) _
  have hBw : B ≤ w.heap.size := by have := h.lowT; have := h.ltT; omega
  have hTW := h.below bW
  have ho := of_any B T M bl L id W hTW hid
  obtain ⟨e1, e2⟩ := of_live (bl := bl) hgp hxp
  rw [e1, e2] at ho
  have hlt : w.heap.size < W.heap.size := by rw [hW]; simp
  have cs : ∀ W', Below W.heap.size W W' → W'.cell? ⟨w.heap.size, 0, none⟩ = some (.int .i64 s) := fun W' k => by
    rw [k.cell (p := ⟨w.heap.size, 0, none⟩) hlt, hW, cell_of_row _ _ 0 _ 3 (0, 0) (heap_alloc_new w _)]
    rfl
  have cv := fun W' => valid_any to W' hto
  rw [hv] at cv
  have cr : Hid (∀ W', Below W.heap.size W W' → Calls Tryz.prog 70 #[.pointer (some ⟨T, 0, none⟩), .pointer (some ⟨bl p.id, 0, none⟩), .string to, .func (.func 73) #[] #[.pointer (some ⟨w.heap.size, 0, none⟩)]] W' fun e w' => e = .returned (.int .i64 code) ∧ TabAt w' B T M bl L' ∧ Bel B W' w') := fun W' k =>
    hr W' w.heap.size (hTW.below k) (cs W' k) (by have := k.size; omega)
  have cs0 := cs W (Below.refl _ _)
  have CS := Lib.hid cs
  have HB := Lib.hid (bW.bel hBw)
  have HBW : Hid (B ≤ W.heap.size) := Nat.le_trans hBw bW.size
  have hmf : ∀ (fn : Fn) (first cap : Array Value) (w : World), (Instr.makeFunc fn first cap).run Tryz.prog w = .ok (.func fn first cap) w := fun _ _ _ _ => rfl
  clear h hTW bW hgp e1 e2 cs hr
  have d1 : decide ((s : Int) < 1) = false := by simp; omega
  have d2 : decide ((s : Int) > 15) = false := by simp; omega
  unfold ptr at *
  generalize bl p.id = g at *
  obtain ⟨bx, hbx⟩ : ∃ bx, bx = w.heap.size := ⟨_, rfl⟩
  rw [← hbx] at cr cs0 CS
  go_enter Tryz.func34, Tryz.ntmps34
  go_upto_region 1 with (fail)
  rw [← hW, ← hbx]
  clear hW hbx
  go_wp2_with (first
    | (go_at_call 23; refine ho.mono ?_; rintro e w1 ⟨rfl, rfl⟩)
    | (go_at_call 68; refine (cv _).mono ?_; rintro e w2 ⟨rfl, b2⟩; have cs1 := CS.out w2 b2)
    | (go_at_call 70; refine (cr.out _ b2).mono ?_; rintro e w3 ⟨rfl, t3, b3⟩))
  go_ret
  exact ⟨rfl, t3, (HB.out.trans (b2.bel HBW.out)).trans b3⟩
set_option maxRecDepth 100000 in
theorem signal_no (B T M : Nat) (bl : ByteArray → Nat) (L : List PR) (id to : ByteArray) (sig : Int) (w : World) (h : TabAt w B T M bl L) (hid : id.size ≤ maxLen) (hc : ofCode L id ≠ 0) :
    Calls Tryz.prog 34 #[ptr T, .string id, .string to, .int .i64 sig] w fun e w' => e = .returned (.int .i64 (ofCode L id)) ∧ TabAt w' B T M bl L ∧ Bel B w w' := by
  obtain ⟨W, hW⟩ : ∃ W, W = w.alloc (.cells #[.int .i64 sig] 3) := ⟨_, rfl⟩
  have bW : Below w.heap.size w W := by rw [hW]; exact (Below.refl _ _).alloc (Nat.le_refl _) _
  have hBw : B ≤ w.heap.size := by have := h.lowT; have := h.ltT; omega
  have hTW := h.below bW
  have ho := of_any B T M bl L id W hTW hid
  rcases of_cases bl L id with ⟨p, hg, hx, e1, e2⟩ | ⟨e1, e2, e3⟩
  · exact absurd e2 hc
  · rw [e1] at ho
    have HT := Lib.hid hTW
    have HB := Lib.hid (bW.bel hBw)
    clear h hTW bW e1 e2 e3
    generalize ofCode L id = c at *
    unfold ptr at *
    go_enter Tryz.func34, Tryz.ntmps34
    go_upto_region 1 with (fail)
    rw [← hW]
    clear hW
    go_wp2_with (go_at_call 23; refine ho.mono ?_; rintro e w1 ⟨rfl, rfl⟩)
    go_ret
    exact ⟨rfl, HT.out, HB.out⟩
/-- Signal by one that lives. -/
theorem signal_act {tot : Int} (B T M : Nat) (bl : ByteArray → Nat) (L : List PR) (id to : ByteArray) (sig : Int) (w : World) (p : PR) (h : TabAt w B T M bl L) (hid : id.size ≤ maxLen) (hto : to.size ≤ maxLen) (hgp : get L id = some p) (hxp : p.exited = false)
    (hF : ∀ q ∈ L, Fine q) (hq : ∀ q ∈ L, 0 ≤ q.pending ∧ q.pending < 65536) :
    Calls Tryz.prog 34 #[ptr T, .string id, .string to, .int .i64 sig] w fun e w' => e = .returned (.int .i64 (signalA p to sig L).1.e) ∧ TabAt w' B T M bl (signalA p to sig L).2 ∧ Bel B w w' := by
  obtain ⟨hpL, hpid⟩ := get_mem hgp
  unfold signalA
  by_cases hb : ¬ (1 ≤ sig ∧ sig ≤ 15) ∨ validB to = false
  · rw [if_pos hb]
    exact signal_arg B T M bl L id to sig w h hid hto (of_live (bl := bl) hgp hxp).2 hb
  rw [if_neg hb]
  have hv : validB to = true := by
    cases hv : validB to
    · exact absurd (.inr hv) hb
    · rfl
  have hs : 1 ≤ sig ∧ sig ≤ 15 := Decidable.not_not.1 fun k => hb (.inl k)
  obtain ⟨s, rfl⟩ : ∃ s : Nat, sig = (s : Int) := ⟨sig.toNat, by omega⟩
  have h1 : 1 ≤ s := by omega
  have h2 : s ≤ 15 := by omega
  rw [Int.toNat_natCast]
  unfold reachA
  cases hg : get L to with
  | none =>
    exact signal_to B T M bl L L id to s 0 w p h hid hto hgp hxp h1 h2 hv (fun W bx k _ _ => (reach_none B T M bl L to _ _ W k hto (by unfold noneLives; rw [hg])).mono (by rintro e w' ⟨rfl, rfl⟩; exact ⟨rfl, k, Bel.refl _ _⟩))
  | some q =>
    obtain ⟨hqL, hqid⟩ := get_mem hg
    simp only
    cases hx : q.exited
    · simp only [Bool.false_eq_true, if_false]
      cases hfl : flowL p.S p.I q.S q.I
      · simp only [Bool.false_eq_true, if_false]
        have key := signal_to B T M bl L L id to s (if flowL q.S q.I p.S p.I then 70 else 0) w p h hid hto hgp hxp h1 h2 hv (fun W bx k _ _ => reach_flow B T M bl L to _ W p q k hto hpL hg hx (hF p hpL) (hF q hqL) hfl)
        cases hf2 : flowL q.S q.I p.S p.I <;> rw [hf2] at key <;> exact key
      · simp only [if_true]
        exact signal_to B T M bl L _ id to s 0 w p h hid hto hgp hxp h1 h2 hv (fun W bx k hc hl => reach_sig B T M bl L to bx s W p q k hto hpL hg hx (hF p hpL) (hF q hqL) hfl hc hl h1 h2 (hq q hqL).1 (hq q hqL).2)
    · simp only [if_true]
      exact signal_to B T M bl L L id to s 0 w p h hid hto hgp hxp h1 h2 hv (fun W bx k _ _ => (reach_none B T M bl L to _ _ W k hto (by unfold noneLives; rw [hg]; exact hx)).mono (by rintro e w' ⟨rfl, rfl⟩; exact ⟨rfl, k, Bel.refl _ _⟩))
end Go.Proofs.YtmphnoabkmoafaaGreatDoor
