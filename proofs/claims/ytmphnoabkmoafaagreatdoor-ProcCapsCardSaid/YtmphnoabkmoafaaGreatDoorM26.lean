/- Signal to one that lives, and is seen; a signal that is none. -/
import Derived.Test.YtmphnoabkmoafaaGreatDoorM19
import Derived.Test.YtmphnoabkmoafaaGreatDoorM25
namespace Go.Proofs.YtmphnoabkmoafaaGreatDoor
open Go.RowKit Go.Maps
set_option linter.unusedVariables false
variable {uu0 : Unit} [Base uu0]
def sigP (q : PR) (s : Nat) : PR := { q with pending := ((q.pending.toNat ||| 2 ^ s : Nat) : Int) }
theorem At66.drew {w w' : World} {g : Nat} {cs : Array Value} (h : At66 w w' g cs) : At66 w w'.drew g cs := ⟨h.row, h.was, h.far, h.size, h.below.drew⟩
theorem or_nat (a b : Nat) (ha : a < 65536) (hb : b < 65536) : bits BinOp.or IntKind.i64 (a : Int) (b : Int) = ((a ||| b : Nat) : Int) :=
  (bits_nat .i64 16 (by decide) (fun n h0 h1 => by rw [IntKind.wrap_i64]; omega) a b ha hb).2
set_option maxRecDepth 100000 in
/-- What Signal does to the one that it reaches. -/
theorem sigdo_any (w : World) (g bx s : Nat) (q : PR) (a b c d : Value) (hrow : w.heap[g]? = some (.cells (q.cells a b c d) 68 (0, 0))) (hbx : w.cell? ⟨bx, 0, none⟩ = some (.int .i64 s)) (h1 : 1 ≤ s) (h2 : s ≤ 15) (h3 : 0 ≤ q.pending) (h4 : q.pending < 65536) :
    Calls Tryz.prog 73 #[ptr g, ptr bx] w fun e w' => e = .returned (.tuple #[]) ∧ At66 w w' g ((sigP q s).cells a b c d) := by
  obtain ⟨n, hn⟩ : ∃ n : Nat, q.pending = (n : Int) := ⟨q.pending.toNat, by omega⟩
  have A0 := Lib.hid (At66.start hrow)
  have c12 : w.cell? ⟨g, 12, none⟩ = some (.int .i64 n) := by rw [A0.out.cell 12, ← hn]; rfl
  have c12' : w.drew.cell? ⟨g, 12, none⟩ = some (.int .i64 n) := c12
  have f12 : w.frozen? ⟨g, 12, none⟩ = false := A0.out.frozen 12
  have f12' : w.drew.frozen? ⟨g, 12, none⟩ = false := f12
  have hbx' : w.drew.cell? ⟨bx, 0, none⟩ = some (.int .i64 s) := hbx
  have hp : (2 : Nat) ^ s < 65536 := Nat.lt_of_le_of_lt (Nat.pow_le_pow_right (by omega) h2) (by decide)
  have hor := or_nat n (2 ^ s) (by omega) hp
  have hcast : (2 : Int) ^ s = ((2 ^ s : Nat) : Int) := (Int.natCast_pow 2 s).symm
  obtain ⟨P, hP⟩ : ∃ P : Nat, 2 ^ s = P := ⟨_, rfl⟩
  rw [hP] at hp hor hcast
  have hsh : wrap64 (2 ^ s : Int) = (P : Int) := by rw [hcast]; unfold wrap64; omega
  have EC : Hid ((sigP q s).cells a b c d = (q.cells a b c d).setIfInBounds 12 (.int .i64 ((n ||| P : Nat) : Int))) := by
    show _ = _
    unfold sigP
    rw [hn, hP, Int.toNat_natCast]
    rfl
  have h15 : (s : Int) ≤ 15 := by omega
  unfold ptr
  go_enter Tryz.func73, Tryz.ntmps73
  go_wp2
  go_region
  all_goals
    go_end0
    exact ⟨rfl, by rw [EC.out]; exact (A0.out.set 12 _).drew⟩
set_option maxRecDepth 100000 in
set_option maxHeartbeats 1000000 in
theorem reach_sig (B T M : Nat) (bl : ByteArray → Nat) (L : List PR) (to : ByteArray) (bx s : Nat) (w : World) (p q : PR) (h : TabAt w B T M bl L) (hid : to.size ≤ maxLen) (hp : p ∈ L) (hg : get L to = some q) (hx : q.exited = false)
    (hFp : Fine p) (hFq : Fine q) (hfl : flowL p.S p.I q.S q.I = true) (hbx : w.cell? ⟨bx, 0, none⟩ = some (.int .i64 s)) (hbl : bx < w.heap.size) (h1 : 1 ≤ s) (h2 : s ≤ 15) (h3 : 0 ≤ q.pending) (h4 : q.pending < 65536) :
    Calls Tryz.prog 70 #[ptr T, ptr (bl p.id), .string to, .func (.func 73) #[] #[ptr bx]] w fun e w' => e = .returned (.int .i64 0) ∧ TabAt w' B T M bl (updP (sigP q s) L) ∧ Bel B w w' := by
  obtain ⟨hqL, hqid⟩ := get_mem hg
  have hrun := h.lookup to hid
  have c0 := h.cellT
  unfold ptrOf at hrun
  rw [hg] at hrun
  simp only at hrun
  obtain ⟨a, b, c, d, hpp⟩ := h.procs p hp
  obtain ⟨a', b', c', d', hqq⟩ := h.procs q hqL
  obtain ⟨ao0, m0, q0, hv0⟩ := hpp.hS.shape3
  obtain ⟨ao1, m1, q1, hv1⟩ := hpp.hI.shape3
  obtain ⟨ao2, m2, q2, hv2⟩ := hqq.hS.shape3
  obtain ⟨ao3, m3, q3, hv3⟩ := hqq.hI.shape3
  subst hv0 hv1 hv2 hv3
  have c8 : w.cell? ⟨bl q.id, 8, none⟩ = some (.bool false) := by rw [hqq.cell 8, ← hx]; rfl
  have hpl := h.ltP hp
  have hql := h.ltP hqL
  have K1 : Hid (∀ W', Below w.heap.size w W' → Calls Tryz.prog 63 #[.agg #[.slice ao0 m0 q0, .slice ao1 m1 q1], .agg #[.slice ao2 m2 q2, .slice ao3 m3 q3]] W' fun e w' => e = .returned (.bool true) ∧ Below W'.heap.size W' w') := fun W' k => by
    refine (flows_any _ _ _ _ p.S p.I q.S q.I W' (hpp.hS.below k (Nat.le_refl _)) (hpp.hI.below k (Nat.le_refl _)) (hqq.hS.below k (Nat.le_refl _)) (hqq.hI.below k (Nat.le_refl _)) hFp.lS hFp.lI hFq.lS hFq.lI).mono ?_
    rintro e w' ⟨rfl, hb⟩
    exact ⟨by rw [← hfl]; rfl, hb⟩
  have l2 : ∀ j : Lat w, j.w.cell? ⟨bl p.id, 2, none⟩ = some (.slice ao0 m0 q0) := fun j => (j.h.cell (p := ⟨bl p.id, 2, none⟩) hpl).trans (hpp.cell 2)
  have l3 : ∀ j : Lat w, j.w.cell? ⟨bl p.id, 3, none⟩ = some (.slice ao1 m1 q1) := fun j => (j.h.cell (p := ⟨bl p.id, 3, none⟩) hpl).trans (hpp.cell 3)
  have r2 : ∀ j : Lat w, j.w.cell? ⟨bl q.id, 2, none⟩ = some (.slice ao2 m2 q2) := fun j => (j.h.cell (p := ⟨bl q.id, 2, none⟩) hql).trans (hqq.cell 2)
  have r3 : ∀ j : Lat w, j.w.cell? ⟨bl q.id, 3, none⟩ = some (.slice ao3 m3 q3) := fun j => (j.h.cell (p := ⟨bl q.id, 3, none⟩) hql).trans (hqq.cell 3)
  have HT := Lib.hid h
  have HQ := Lib.hid hqq
  have HL := Lib.hid hqL
  have HB : Hid (B ≤ w.heap.size) := by have := h.lowT; have := h.ltT; show _ ≤ _; omega
  have HX : Hid (∀ j : Lat w, j.w.cell? ⟨bx, 0, none⟩ = some (.int .i64 s)) := fun j => (j.h.cell (p := ⟨bx, 0, none⟩) hbl).trans hbx
  have H3 := Lib.hid h3
  have H4 := Lib.hid h4
  have HQL := Lib.hid hql
  unfold ptr at *
  obtain ⟨g, hgb⟩ : ∃ g, g = bl p.id := ⟨_, rfl⟩
  rw [← hgb] at l2 l3 ⊢
  obtain ⟨k, hkb⟩ : ∃ k, k = bl q.id := ⟨_, rfl⟩
  rw [← hkb] at hrun c8 r2 r3
  have HK := Lib.hid hkb
  clear h hg hpp hqq hfl hbx hbl hx hpl hql hgb hkb h3 h4 hqL hqid hp
  go_enter Tryz.func70, Tryz.ntmps70
  go_wp2
  refine wp_region_lat (W := w) (by kernel_rfl) (by kernel_rfl) (Below.refl _ _) ?_
  iterate 12 (go_big_quiet_step (with_reducible exact Lat.call (K1.out _ (Lat.h _))))
  refine wpQuiet_nil ?_
  rintro _ ⟨j, rfl⟩
  have hT := HT.out.below j.h
  have hq2 := HQ.out.keep (Keep3.of_below j.h) (j.h.block _ HQL.out)
  have K2 : Hid (Calls Tryz.prog 73 #[.pointer (some ⟨k, 0, none⟩), .pointer (some ⟨bx, 0, none⟩)] j.w fun e w' => e = .returned (.tuple #[]) ∧ At66 j.w w' k ((sigP q s).cells (.slice ao2 m2 q2) (.slice ao3 m3 q3) c' d')) := sigdo_any j.w k bx s q _ _ _ _ (by rw [HK.out]; exact hq2.row) (HX.out j) h1 h2 H3.out H4.out
  have HT2 := Lib.hid hT
  have HQ2 := Lib.hid hq2
  have HJ : Hid (Bel B w j.w) := j.h.bel HB.out
  clear hT hq2 l2 l3 r2 r3
  go_wp2_with (go_at_call 73; refine K2.out.mono ?_; rintro e w2 ⟨rfl, A⟩)
  obtain ⟨t2, b2⟩ := HT2.out.at66 (p' := sigP q s) HL.out rfl (by rw [← HK.out]; exact A) HQ2.out.hS HQ2.out.hI HQ2.out.hP HQ2.out.hM
  go_wp2
  go_ret
  exact ⟨rfl, t2, HJ.out.trans b2⟩
set_option maxRecDepth 100000 in
set_option maxHeartbeats 1000000 in
/-- A signal to one that lives and is seen. -/
theorem signal_live (B T M : Nat) (bl : ByteArray → Nat) (L : List PR) (id to : ByteArray) (s : Nat) (w : World) (p q : PR) (h : TabAt w B T M bl L) (hid : id.size ≤ maxLen) (hto : to.size ≤ maxLen) (hgp : get L id = some p) (hxp : p.exited = false) (h1 : 1 ≤ s) (h2 : s ≤ 15) (hv : validB to = true)
    (hg : get L to = some q) (hx : q.exited = false) (hFp : Fine p) (hFq : Fine q) (hfl : flowL p.S p.I q.S q.I = true) (h3 : 0 ≤ q.pending) (h4 : q.pending < 65536) :
    Calls Tryz.prog 34 #[ptr T, .string id, .string to, .int .i64 s] w fun e w' => e = .returned (.int .i64 0) ∧ TabAt w' B T M bl (updP (sigP q s) L) ∧ Bel B w w' := by
  obtain ⟨hpL, hpid⟩ := get_mem hgp
  obtain ⟨W, hW⟩ : ∃ W, W = w.alloc (.cells #[.int .i64 s] 3) := ⟨_, rfl⟩
  have bW : Below w.heap.size w W := by rw [hW]; exact (Below.refl _ _).alloc (Nat.le_refl _) _
  have hBw : B ≤ w.heap.size := by have := h.lowT; have := h.ltT; omega
  have hTW := h.below bW
  have ho := of_any B T M bl L id W hTW hid
  obtain ⟨e1, e2⟩ := of_live (bl := bl) hgp hxp
  rw [e1, e2] at ho
  have hlt : w.heap.size < W.heap.size := by rw [hW]; simp
  have cs : ∀ W', Below W.heap.size W W' → W'.cell? ⟨w.heap.size, 0, none⟩ = some (.int .i64 s) := fun W' k => by
    rw [k.cell (p := ⟨w.heap.size, 0, none⟩) hlt, hW, cell_of_row _ _ 0 _ 3 (0, 0) (heap_alloc_new w _)]
    rfl
  have cv := fun W' => valid_any to W' hto
  rw [hv] at cv
  have cr : Hid (∀ W', Below W.heap.size W W' → Calls Tryz.prog 70 #[.pointer (some ⟨T, 0, none⟩), .pointer (some ⟨bl p.id, 0, none⟩), .string to, .func (.func 73) #[] #[.pointer (some ⟨w.heap.size, 0, none⟩)]] W' fun e w' => e = .returned (.int .i64 0) ∧ TabAt w' B T M bl (updP (sigP q s) L) ∧ Bel B W' w') := fun W' k =>
    reach_sig B T M bl L to w.heap.size s W' p q (hTW.below k) hto hpL hg hx hFp hFq hfl (cs W' k) (by have := k.size; omega) h1 h2 h3 h4
  have cs0 := cs W (Below.refl _ _)
  have CS := Lib.hid cs
  have HB := Lib.hid (bW.bel hBw)
  have HBW : Hid (B ≤ W.heap.size) := Nat.le_trans hBw bW.size
  have hmf : ∀ (fn : Fn) (first cap : Array Value) (w : World), (Instr.makeFunc fn first cap).run Tryz.prog w = .ok (.func fn first cap) w := fun _ _ _ _ => rfl
  clear h hTW bW hgp hg e1 e2 cs hfl
  have d1 : decide ((s : Int) < 1) = false := by simp; omega
  have d2 : decide ((s : Int) > 15) = false := by simp; omega
  unfold ptr at *
  generalize bl p.id = g at *
  obtain ⟨bx, hbx⟩ : ∃ bx, bx = w.heap.size := ⟨_, rfl⟩
  rw [← hbx] at cr cs0 CS
  go_enter Tryz.func34, Tryz.ntmps34
  go_upto_region 1 with (fail)
  rw [← hW, ← hbx]
  clear hW hbx
  go_wp2_with (first
    | (go_at_call 23; refine ho.mono ?_; rintro e w1 ⟨rfl, rfl⟩)
    | (go_at_call 68; refine (cv _).mono ?_; rintro e w2 ⟨rfl, b2⟩; have cs1 := CS.out w2 b2)
    | (go_at_call 70; refine (cr.out _ b2).mono ?_; rintro e w3 ⟨rfl, t3, b3⟩))
  go_ret
  exact ⟨rfl, t3, (HB.out.trans (b2.bel HBW.out)).trans b3⟩
set_option maxRecDepth 100000 in
/-- A number that is no signal. -/
theorem signal_arg (B T M : Nat) (bl : ByteArray → Nat) (L : List PR) (id to : ByteArray) (sig : Int) (w : World) (h : TabAt w B T M bl L) (hid : id.size ≤ maxLen) (hto : to.size ≤ maxLen) (h0 : ofCode L id = 0) (hs : ¬ (1 ≤ sig ∧ sig ≤ 15) ∨ validB to = false) :
    Calls Tryz.prog 34 #[ptr T, .string id, .string to, .int .i64 sig] w fun e w' => e = .returned (.int .i64 1) ∧ TabAt w' B T M bl L ∧ Bel B w w' := by
  obtain ⟨W, hW⟩ : ∃ W, W = w.alloc (.cells #[.int .i64 sig] 3) := ⟨_, rfl⟩
  have bW : Below w.heap.size w W := by rw [hW]; exact (Below.refl _ _).alloc (Nat.le_refl _) _
  have hBw : B ≤ w.heap.size := by have := h.lowT; have := h.ltT; omega
  have hTW := h.below bW
  have ho := of_any B T M bl L id W hTW hid
  rcases of_cases bl L id with ⟨p, hg, hx, e1, e2⟩ | ⟨e1, e2, e3⟩
  · rw [e1, e2] at ho
    have hlt : w.heap.size < W.heap.size := by rw [hW]; simp
    have cs0 : W.cell? ⟨w.heap.size, 0, none⟩ = some (.int .i64 sig) := by
      rw [hW, cell_of_row _ _ 0 _ 3 (0, 0) (heap_alloc_new w _)]
      rfl
    have cv := fun W' => valid_any to W' hto
    have HB := Lib.hid (bW.bel hBw)
    have HT := Lib.hid hTW
    have HBW : Hid (B ≤ W.heap.size) := Nat.le_trans hBw bW.size
    clear h hTW bW hg e1 e2
    unfold ptr at *
    generalize bl p.id = g at *
    by_cases hsg : 1 ≤ sig ∧ sig ≤ 15
    · have hv : validB to = false := hs.resolve_left (fun k => k hsg)
      rw [hv] at cv
      obtain ⟨q1, q2⟩ := hsg
      have d1 : decide (sig < 1) = false := by simp; omega
      have d2 : decide (sig > 15) = false := by simp; omega
      go_enter Tryz.func34, Tryz.ntmps34
      go_upto_region 1 with (fail)
      rw [← hW]
      clear hW
      go_wp2_with (first
        | (go_at_call 23; refine ho.mono ?_; rintro e w1 ⟨rfl, rfl⟩)
        | (go_at_call 68; refine (cv _).mono ?_; rintro e w2 ⟨rfl, b2⟩))
      go_ret
      exact ⟨rfl, HT.out.below b2, HB.out.trans (b2.bel HBW.out)⟩
    · by_cases hs1 : sig < 1
      · have d1 : decide (sig < 1) = true := by simp; omega
        clear hs hsg
        go_enter Tryz.func34, Tryz.ntmps34
        go_upto_region 1 with (fail)
        rw [← hW]
        clear hW
        go_wp2_with (go_at_call 23; refine ho.mono ?_; rintro e w1 ⟨rfl, rfl⟩)
        go_ret
        exact ⟨rfl, HT.out, HB.out⟩
      · have d1 : decide (sig < 1) = false := by simp; omega
        have d2 : decide (sig > 15) = true := by simp; omega
        clear hs hsg
        go_enter Tryz.func34, Tryz.ntmps34
        go_upto_region 1 with (fail)
        rw [← hW]
        clear hW
        go_wp2_with (go_at_call 23; refine ho.mono ?_; rintro e w1 ⟨rfl, rfl⟩)
        go_ret
        exact ⟨rfl, HT.out, HB.out⟩
  · exact absurd h0 e2
end Go.Proofs.YtmphnoabkmoafaaGreatDoor
