/- ProcTags in plain words: the tags, the lists, the law's own rows. -/
import Derived.Test.YtmphnoabkmoafaaDoorDrop
import Derived.Test.YtmphnoabkmoafaaDoorRiseL
import Derived.Deep.AppendLies
import Derived.Deep.RegionHeldLaw
namespace Go.Proofs.YtmphnoabkmoafaaDoor
open Go.RowKit Go.Maps
set_option linter.unusedVariables false
def tP1 : PR := ⟨oneB, ⟨#[]⟩, [], [], [11], [11], 5, 0, false, 0, 1, 0, 0⟩
def tP2 : PR := ⟨oneB, ⟨#[]⟩, [], [], [11, 12], [11, 12], 5, 0, false, 0, 2, 0, 0⟩
def tP3 : PR := ⟨oneB, ⟨#[]⟩, [], [], [11, 12], [11, 12], 4, 0, false, 1, 2, 0, 0⟩
def tC : PR := ⟨b11, oneB, [], [], [11, 12], [11, 12], 0, 0, false, 0, 0, 0, 0⟩
theorem t1_eq : tagK1 [firstP 5] oneB 11 = some [tP1] := by kernel_rfl
theorem norm_two : normL [11, 12] = [11, 12] := normL_eq [11, 12] [11, 12] (by decide) (fun x => by simp)
theorem tjoin : joinL [11] [12] = [11, 12] := by
  unfold joinL normV
  rw [show ([11] : List Int) ++ [12] = [11, 12] from rfl, norm_two]
  rfl
theorem tjoinOk : joinOk [11] [12] = true := by
  unfold joinOk
  rw [show ([11] : List Int) ++ [12] = [11, 12] from rfl, norm_two]
  rfl
theorem t2_eq : tagK [tP1] oneB = some (12, [tP2]) := by
  have hg : get [tP1] oneB = some tP1 := by kernel_rfl
  have e0 : tagN tP1 = 12 := by kernel_rfl
  have e1 : tagOk tP1 = true := by
    unfold tagOk
    rw [e0, show tP1.Plus = [11] from rfl, show tP1.Minus = [11] from rfl, tjoinOk]
    rfl
  have e2 : tagP tP1 = tP2 := by
    unfold tagP
    rw [e0, show tP1.Plus = [11] from rfl, show tP1.Minus = [11] from rfl, tjoin]
    rfl
  have e3 : fineB tP1 = true := by kernel_rfl
  unfold tagK
  rw [hg]
  simp only [e0, e1, e2, e3]
  rfl
theorem t3_eq : forkK [tP2] oneB 0 = some (b11, [tP3, tC]) := by kernel_rfl
/-- The tags that a test picks, of the first k. -/
def pick2 (f : Nat → Bool) : Nat → List Int
  | 0 => []
  | k + 1 => pick2 f k ++ (if f k then [11 + (k : Int)] else [])
def mayT (p t : Nat → Bool) : Nat → Bool
  | 0 => true
  | k + 1 => mayT p t k && (!t k || p k)
def backT (m t : Nat → Bool) : Nat → Bool
  | 0 => true
  | k + 1 => backT m t k && (!t k || m k)
theorem pick2_two (f : Nat → Bool) : pick2 f 2 = (if f 0 then [11] else []) ++ (if f 1 then [12] else []) := by
  cases h0 : f 0 <;> cases h1 : f 1 <;> simp [pick2, h0, h1]
theorem mayT_two (p t : Nat → Bool) : mayT p t 2 = ((!t 0 || p 0) && (!t 1 || p 1)) := by
  cases h0 : p 0 <;> cases h1 : p 1 <;> cases h2 : t 0 <;> cases h3 : t 1 <;> simp [mayT, h0, h1, h2, h3]
theorem backT_two (p t : Nat → Bool) : backT p t 2 = ((!t 0 || p 0) && (!t 1 || p 1)) := mayT_two p t
def tD (p m : Nat → Bool) : PR := lessP tC (pick2 (fun k => !p k) 2) (pick2 (fun k => !m k) 2)
def lst (a b : Bool) : List Int := (if a then [11] else []) ++ (if b then [12] else [])
theorem tset (a b : Bool) : setL (lst a b) = true := by cases a <;> cases b <;> kernel_rfl
theorem tlen (a b : Bool) : (lst a b).length ≤ 100 := by cases a <;> cases b <;> decide
theorem tmay (p0 p1 m0 m1 t0 t1 : Bool) : mayChange (lessP tC (lst (!p0) (!p1)) (lst (!m0) (!m1))) (lst t0 t1) [] = ((!t0 || p0) && (!t1 || p1)) := by
  cases p0 <;> cases p1 <;> cases m0 <;> cases m1 <;> cases t0 <;> cases t1 <;> kernel_rfl
theorem tback (p0 p1 m0 m1 t0 t1 : Bool) : mayChange (relP (lessP tC (lst (!p0) (!p1)) (lst (!m0) (!m1))) (lst t0 t1) []) [] [] = ((!t0 || m0) && (!t1 || m1)) := by
  cases p0 <;> cases p1 <;> cases m0 <;> cases m1 <;> cases t0 <;> cases t1 <;> kernel_rfl
def bitI (mask : Int) (s : Nat) : Bool := decide ((mask / 2 ^ s) % 2 = 1)
theorem bitI_walk (mask : Int) (s : Nat) : bits BinOp.and IntKind.i64 (mask / 2 ^ s) 1 = if bitI mask s then 1 else 0 := by
  have e1 : bits BinOp.and IntKind.i64 (mask / 2 ^ s) 1 = (mask / 2 ^ s) % 2 := by
    have e : bits BinOp.and IntKind.i64 (mask / 2 ^ s) 1 = IntKind.i64.wrap (((BitVec.ofInt 64 (mask / 2 ^ s)).toNat &&& 1 : Nat) : Int) := rfl
    rw [e, Nat.and_one_is_mod, BitVec.toNat_ofInt, IntKind.wrap_i64]
    generalize mask / 2 ^ s = x
    omega
  rw [e1]
  unfold bitI
  by_cases h : (mask / 2 ^ s) % 2 = 1
  · simp [h]
  · have : (mask / 2 ^ s) % 2 = 0 := by omega
    simp [this]
/-- The law's own rows, beside a table that was there before. -/
structure TagsMem (wd w : World) (d : Nat) (vP vM vS : Value) (lP lM lS : List Int) : Prop where
  box : w.heap[d]? = some (.cells #[vP, vM] 43 (0, 0))
  oP : w.ownsRow wd.heap.size 3 1 vP lP.length (lits lP)
  oM : w.ownsRow wd.heap.size 3 1 vM lM.length (lits lM)
  oS : w.ownsRow wd.heap.size 3 1 vS lS.length (lits lS)
  aPM : ∀ k, vP.ownBlock = some k → vM.ownBlock ≠ some k
  aPS : ∀ k, vP.ownBlock = some k → vS.ownBlock ≠ some k
  aMS : ∀ k, vM.ownBlock = some k → vS.ownBlock ≠ some k
  far : wd.grownBy w (some d)
  dlt : d < wd.heap.size
theorem ownsRow_keep {w w' : World} {B : Nat} {t : TypeId} {v : Value} {n : Nat} {xs : List Value} (h : w.ownsRow B t 1 v n xs) (hk : ∀ k, v.ownBlock = some k → w'.heap[k]? = w.heap[k]?) : w'.ownsRow B t 1 v n xs := by
  obtain ⟨h0, h1 | ⟨g, cap, cur, e1, e2, e3, r⟩⟩ := h
  · exact ⟨h0, .inl h1⟩
  · exact ⟨h0, .inr ⟨g, cap, cur, e1, e2, (hk g (by rw [e1]; rfl)).trans e3, r⟩⟩
theorem ownsRow_lt {w : World} {B : Nat} {t : TypeId} {v : Value} {n : Nat} {xs : List Value} (h : w.ownsRow B t 1 v n xs) {k : Nat} (hk : v.ownBlock = some k) : B ≤ k ∧ k < w.heap.size := by
  obtain ⟨h0, ⟨e, _⟩ | ⟨g, cap, cur, e1, e2, e3, r⟩⟩ := h
  · rw [e] at hk; cases hk
  · rw [e1] at hk
    have : g = k := by simpa [Value.ownBlock] using hk
    subst this
    exact ⟨e2, (Array.getElem?_eq_some_iff.1 e3).1⟩
/-- An append to a row of the law's own, by steps: what all other rows see of it. -/
theorem grown_keep {wd w w' w1 : World} {vX : Value} {lX : List Int} (hX : w.ownsRow wd.heap.size 3 1 vX lX.length (lits lX)) (k0 : Below w.heap.size w w') (g1 : w'.grownBy w1 vX.ownBlock) : ∀ k, k < w.heap.size → vX.ownBlock ≠ some k → w1.heap[k]? = w.heap[k]? := fun k hk hne => by
  rw [g1.block k (by have := k0.size; omega) (fun e => hne e.symm), k0.block k hk]
theorem ownB_eq {g n cap k : Nat} (h : (Value.slice (some ⟨g, 0, none⟩) n cap).ownBlock = some k) : k = g := by
  have : g = k := by simpa [Value.ownBlock] using h
  exact this.symm
section
variable {wd w w' w1 : World} {d : Nat} {vP vM vS : Value} {lP lM lS : List Int} {g cap : Nat} {x : Int}
theorem TagsMem.putP (h : TagsMem wd w d vP vM vS lP lM lS) (k0 : Below w.heap.size w w') (own1 : w1.ownsRow wd.heap.size 3 1 (.slice (some ⟨g, 0, none⟩) (lP.length + 1) cap) (lP.length + 1) (lits lP ++ [.int .i64 x])) (g1 : w'.grownBy w1 vP.ownBlock) (hat : vP.ownBlock = some g ∨ g = w'.heap.size) :
    TagsMem wd (w1.setCell ⟨d, 0, none⟩ (.slice (some ⟨g, 0, none⟩) (lP.length + 1) cap)) d (.slice (some ⟨g, 0, none⟩) (lP.length + 1) cap) vM vS (lP ++ [x]) lM lS := by
  have hws := h.far.size
  have hkeep := grown_keep (wd := wd) h.oP k0 g1
  have hdP : vP.ownBlock ≠ some d := fun e => by have := (ownsRow_lt h.oP e).1; have := h.dlt; omega
  have hgB : wd.heap.size ≤ g := by
    rcases hat with e | e
    · exact (ownsRow_lt h.oP e).1
    · have := k0.size; omega
  have hgd : g ≠ d := by have := h.dlt; omega
  have hbox : w1.heap[d]? = some (.cells #[vP, vM] 43 (0, 0)) := (hkeep d (by have := h.dlt; omega) hdP).trans h.box
  have nM : ∀ k, vM.ownBlock = some k → k ≠ g ∧ w1.heap[k]? = w.heap[k]? := fun k e => by
    have hl := ownsRow_lt h.oM e
    refine ⟨?_, hkeep k hl.2 (fun e2 => h.aPM k e2 e)⟩
    rintro rfl
    rcases hat with e2 | e2
    · exact h.aPM k e2 e
    · have := k0.size; omega
  have nS : ∀ k, vS.ownBlock = some k → k ≠ g ∧ w1.heap[k]? = w.heap[k]? := fun k e => by
    have hl := ownsRow_lt h.oS e
    refine ⟨?_, hkeep k hl.2 (fun e2 => h.aPS k e2 e)⟩
    rintro rfl
    rcases hat with e2 | e2
    · exact h.aPS k e2 e
    · have := k0.size; omega
  have hlen : (lits lP ++ [Value.int .i64 x]) = lits (lP ++ [x]) := by simp [lits]
  have own2 : w1.ownsRow wd.heap.size 3 1 (.slice (some ⟨g, 0, none⟩) (lP.length + 1) cap) (lP ++ [x]).length (lits (lP ++ [x])) := by rw [List.length_append, ← hlen]; exact own1
  have hfar : wd.grownBy w1 (some d) := ⟨(g1.os.trans k0.os).trans h.far.os, (g1.tape.trans k0.tape).trans h.far.tape, (g1.output.trans k0.output).trans h.far.output, Nat.le_trans hws (Nat.le_trans k0.size g1.size), fun k hk hne => (hkeep k (by omega) (fun e => by have := (ownsRow_lt h.oP e).1; omega)).trans (h.far.block k hk hne)⟩
  have hset : ∀ k, k ≠ d → (w1.setCell ⟨d, 0, none⟩ (.slice (some ⟨g, 0, none⟩) (lP.length + 1) cap)).heap[k]? = w1.heap[k]? := fun k hk => heap_setCell_other w1 ⟨d, 0, none⟩ k _ (by simpa using hk)
  have hgs := grown_set w1 ⟨d, 0, none⟩ (.slice (some ⟨g, 0, none⟩) (lP.length + 1) cap)
  exact ⟨by rw [heap_setCell_same w1 d 0 _ 43 _ hbox]; rfl, ownsRow_keep own2 (fun k e => hset k (by rw [ownB_eq e]; exact hgd)), ownsRow_keep h.oM (fun k e => (hset k (by have := (ownsRow_lt h.oM e).1; have := h.dlt; omega)).trans (nM k e).2), ownsRow_keep h.oS (fun k e => (hset k (by have := (ownsRow_lt h.oS e).1; have := h.dlt; omega)).trans (nS k e).2), fun k e e2 => (nM k e2).1 (ownB_eq e), fun k e e2 => (nS k e2).1 (ownB_eq e), h.aMS, ⟨hgs.os.trans hfar.os, hgs.tape.trans hfar.tape, hgs.output.trans hfar.output, Nat.le_trans hfar.size hgs.size, fun k hk hne => (hset k (fun e => hne (by rw [e]))).trans (hfar.block k hk hne)⟩, h.dlt⟩
theorem TagsMem.putM (h : TagsMem wd w d vP vM vS lP lM lS) (k0 : Below w.heap.size w w') (own1 : w1.ownsRow wd.heap.size 3 1 (.slice (some ⟨g, 0, none⟩) (lM.length + 1) cap) (lM.length + 1) (lits lM ++ [.int .i64 x])) (g1 : w'.grownBy w1 vM.ownBlock) (hat : vM.ownBlock = some g ∨ g = w'.heap.size) :
    TagsMem wd (w1.setCell ⟨d, 1, none⟩ (.slice (some ⟨g, 0, none⟩) (lM.length + 1) cap)) d vP (.slice (some ⟨g, 0, none⟩) (lM.length + 1) cap) vS lP (lM ++ [x]) lS := by
  have hws := h.far.size
  have hkeep := grown_keep (wd := wd) h.oM k0 g1
  have hdM : vM.ownBlock ≠ some d := fun e => by have := (ownsRow_lt h.oM e).1; have := h.dlt; omega
  have hgB : wd.heap.size ≤ g := by
    rcases hat with e | e
    · exact (ownsRow_lt h.oM e).1
    · have := k0.size; omega
  have hgd : g ≠ d := by have := h.dlt; omega
  have hbox : w1.heap[d]? = some (.cells #[vP, vM] 43 (0, 0)) := (hkeep d (by have := h.dlt; omega) hdM).trans h.box
  have nP : ∀ k, vP.ownBlock = some k → k ≠ g ∧ w1.heap[k]? = w.heap[k]? := fun k e => by
    have hl := ownsRow_lt h.oP e
    refine ⟨?_, hkeep k hl.2 (fun e2 => (fun k e e2 => h.aPM k e2 e) k e2 e)⟩
    rintro rfl
    rcases hat with e2 | e2
    · exact (fun k e e2 => h.aPM k e2 e) k e2 e
    · have := k0.size; omega
  have nS : ∀ k, vS.ownBlock = some k → k ≠ g ∧ w1.heap[k]? = w.heap[k]? := fun k e => by
    have hl := ownsRow_lt h.oS e
    refine ⟨?_, hkeep k hl.2 (fun e2 => h.aMS k e2 e)⟩
    rintro rfl
    rcases hat with e2 | e2
    · exact h.aMS k e2 e
    · have := k0.size; omega
  have hlen : (lits lM ++ [Value.int .i64 x]) = lits (lM ++ [x]) := by simp [lits]
  have own2 : w1.ownsRow wd.heap.size 3 1 (.slice (some ⟨g, 0, none⟩) (lM.length + 1) cap) (lM ++ [x]).length (lits (lM ++ [x])) := by rw [List.length_append, ← hlen]; exact own1
  have hfar : wd.grownBy w1 (some d) := ⟨(g1.os.trans k0.os).trans h.far.os, (g1.tape.trans k0.tape).trans h.far.tape, (g1.output.trans k0.output).trans h.far.output, Nat.le_trans hws (Nat.le_trans k0.size g1.size), fun k hk hne => (hkeep k (by omega) (fun e => by have := (ownsRow_lt h.oM e).1; omega)).trans (h.far.block k hk hne)⟩
  have hset : ∀ k, k ≠ d → (w1.setCell ⟨d, 1, none⟩ (.slice (some ⟨g, 0, none⟩) (lM.length + 1) cap)).heap[k]? = w1.heap[k]? := fun k hk => heap_setCell_other w1 ⟨d, 1, none⟩ k _ (by simpa using hk)
  have hgs := grown_set w1 ⟨d, 1, none⟩ (.slice (some ⟨g, 0, none⟩) (lM.length + 1) cap)
  exact ⟨by rw [heap_setCell_same w1 d 1 _ 43 _ hbox]; rfl, ownsRow_keep h.oP (fun k e => (hset k (by have := (ownsRow_lt h.oP e).1; have := h.dlt; omega)).trans (nP k e).2), ownsRow_keep own2 (fun k e => hset k (by rw [ownB_eq e]; exact hgd)), ownsRow_keep h.oS (fun k e => (hset k (by have := (ownsRow_lt h.oS e).1; have := h.dlt; omega)).trans (nS k e).2), fun k e e2 => (nP k e).1 (ownB_eq e2), h.aPS, fun k e e2 => (nS k e2).1 (ownB_eq e), ⟨hgs.os.trans hfar.os, hgs.tape.trans hfar.tape, hgs.output.trans hfar.output, Nat.le_trans hfar.size hgs.size, fun k hk hne => (hset k (fun e => hne (by rw [e]))).trans (hfar.block k hk hne)⟩, h.dlt⟩
theorem TagsMem.putS (h : TagsMem wd w d vP vM vS lP lM lS) (k0 : Below w.heap.size w w') (own1 : w1.ownsRow wd.heap.size 3 1 (.slice (some ⟨g, 0, none⟩) (lS.length + 1) cap) (lS.length + 1) (lits lS ++ [.int .i64 x])) (g1 : w'.grownBy w1 vS.ownBlock) (hat : vS.ownBlock = some g ∨ g = w'.heap.size) :
    TagsMem wd w1 d vP vM (.slice (some ⟨g, 0, none⟩) (lS.length + 1) cap) lP lM (lS ++ [x]) := by
  have hws := h.far.size
  have hkeep := grown_keep (wd := wd) h.oS k0 g1
  have hdS : vS.ownBlock ≠ some d := fun e => by have := (ownsRow_lt h.oS e).1; have := h.dlt; omega
  have hgB : wd.heap.size ≤ g := by
    rcases hat with e | e
    · exact (ownsRow_lt h.oS e).1
    · have := k0.size; omega
  have hgd : g ≠ d := by have := h.dlt; omega
  have hbox : w1.heap[d]? = some (.cells #[vP, vM] 43 (0, 0)) := (hkeep d (by have := h.dlt; omega) hdS).trans h.box
  have nP : ∀ k, vP.ownBlock = some k → k ≠ g ∧ w1.heap[k]? = w.heap[k]? := fun k e => by
    have hl := ownsRow_lt h.oP e
    refine ⟨?_, hkeep k hl.2 (fun e2 => (fun k e e2 => h.aPS k e2 e) k e2 e)⟩
    rintro rfl
    rcases hat with e2 | e2
    · exact (fun k e e2 => h.aPS k e2 e) k e2 e
    · have := k0.size; omega
  have nM : ∀ k, vM.ownBlock = some k → k ≠ g ∧ w1.heap[k]? = w.heap[k]? := fun k e => by
    have hl := ownsRow_lt h.oM e
    refine ⟨?_, hkeep k hl.2 (fun e2 => (fun k e e2 => h.aMS k e2 e) k e2 e)⟩
    rintro rfl
    rcases hat with e2 | e2
    · exact (fun k e e2 => h.aMS k e2 e) k e2 e
    · have := k0.size; omega
  have hlen : (lits lS ++ [Value.int .i64 x]) = lits (lS ++ [x]) := by simp [lits]
  have own2 : w1.ownsRow wd.heap.size 3 1 (.slice (some ⟨g, 0, none⟩) (lS.length + 1) cap) (lS ++ [x]).length (lits (lS ++ [x])) := by rw [List.length_append, ← hlen]; exact own1
  have hfar : wd.grownBy w1 (some d) := ⟨(g1.os.trans k0.os).trans h.far.os, (g1.tape.trans k0.tape).trans h.far.tape, (g1.output.trans k0.output).trans h.far.output, Nat.le_trans hws (Nat.le_trans k0.size g1.size), fun k hk hne => (hkeep k (by omega) (fun e => by have := (ownsRow_lt h.oS e).1; omega)).trans (h.far.block k hk hne)⟩
  exact ⟨hbox, ownsRow_keep h.oP (fun k e => (nP k e).2), ownsRow_keep h.oM (fun k e => (nM k e).2), own2, h.aPM, fun k e e2 => (nP k e).1 (ownB_eq e2), fun k e e2 => (nM k e).1 (ownB_eq e2), hfar, h.dlt⟩
theorem TagsMem.ints (h : TagsMem wd w d vP vM vS lP lM lS) : IntsAt w vP lP ∧ IntsAt w vM lM ∧ IntsAt w vS lS := ⟨IntsAt.of_owns h.oP, IntsAt.of_owns h.oM, IntsAt.of_owns h.oS⟩
theorem TagsMem.tab {B T M : Nat} {bl : ByteArray → Nat} {L : List PR} (h : TagsMem wd w d vP vM vS lP lM lS) (ht : TabAt wd B T M bl L) (hdr : ∃ cs, wd.heap[d]? = some (.cells cs 43 (0, 0))) : TabAt w B T M bl L := by
  obtain ⟨cs, hcs⟩ := hdr
  exact ht.other (t := 43) (fun k hk hne => h.far.block k hk (by rintro e; cases e; exact hne cs hcs)) (by decide) (by decide) (by decide)
end
end Go.Proofs.YtmphnoabkmoafaaDoor
