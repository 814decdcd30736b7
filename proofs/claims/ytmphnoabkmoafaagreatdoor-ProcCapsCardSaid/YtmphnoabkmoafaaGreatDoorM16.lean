/- Exit. -/
import Derived.Lib.SlicesS
import Derived.Test.YtmphnoabkmoafaaGreatDoorM14
import Derived.Test.YtmphnoabkmoafaaGreatDoorM15
namespace Go.Proofs.YtmphnoabkmoafaaGreatDoor
open Go.RowKit Go.Maps
set_option linter.unusedVariables false
variable {uu0 : Unit} [Base uu0]
def exitErr (L : List PR) (id : ByteArray) : Int := match get L id with
  | none => 61
  | some p => if p.exited then 50 else if id = oneB then 1 else 0
def exitP (p : PR) (status : Int) : PR := { p with exited := true, status := status }
def childOf (id : ByteArray) (q : PR) : Bool := decide (q.par = id)
theorem str_eq (s t : ByteArray) : (s.toList == t.toList) = decide (s = t) := by
  rw [Bool.eq_iff_iff, Lib.bytes_beq_iff, decide_eq_true_eq]
theorem one_eq (s : ByteArray) : (s.toList == [49]) = decide (s = oneB) := by
  rw [← str_eq, show oneB.toList = [49] by rw [ByteArray.toList_eq]; rfl]
/-- The step of a loop over the table, at this program's types. -/
theorem wpList_next_procs (w : World) {ops : Array Oper} {rest : List Oper} {o : Oper} {a : Act} {Q : Exit → Act → World → Prop} (hg : o.guard = none) (it : Operand) (hop : o.op = Op.next it false)
    (M r n : Nat) (bl : ByteArray → Nat) (L : List PR) (left : Lit → Bool) (cnt : Nat) (hit : a.eval it = .pointer (some ⟨r, 0, none⟩)) (h : w.ranges Tryz.prog 9 readP M r n (encT bl L) left cnt)
    (hDone : cnt = 0 → (∀ kl, left kl = false) → wpList Tryz.prog ops Q rest (a.put o.dst (.tuple #[.bool false])) w)
    (hMore : ∀ (q : PR) (w' : World) (cnt' : Nat), q ∈ L → left (keyL q.id) = true → w'.ranges Tryz.prog 9 readP M r n (encT bl L) (fun z => left z && !z.sameKey (keyL q.id)) cnt' → cnt' < cnt → w.grownBy w' (some r) → w'.heap.size = w.heap.size →
      (Instr.entry (.pointer (some ⟨r, 0, none⟩))).run Tryz.prog w' = .ok (.tuple #[.string q.id, .pointer (some ⟨bl q.id, 0, none⟩)]) w' → wpList Tryz.prog ops Q rest (a.put o.dst (.tuple #[.bool true, .string q.id, .pointer (some ⟨bl q.id, 0, none⟩)])) w') :
    wpList Tryz.prog ops Q (o :: rest) a w :=
  wpList_next_ranges (α := List UInt8) (β := Option Nat) w hg it hop 9 law9 readP encStr (fun c => .pointer (c.map fun b => ⟨b, 0, none⟩)) (fun key kl hk => by obtain ⟨x, hx, _⟩ := Maps.keyOf_str und9 hk; exact ⟨x, hx⟩) (fun v y hv => readP_inv hv) M r n (encT bl L) left cnt hit h hDone
    (fun x c kl y w' cnt' hkey hlk hv hat hrg hlt hgr hsz hen => by
      obtain ⟨x', ex, hkl, _⟩ := Maps.keyOf_str und9 hkey
      obtain rfl := encStr_inj ex
      obtain ⟨q, hq, ek, rfl⟩ := enc_found hkl hv hat
      have e2 : encStr x = .string q.id := by
        have : x = q.id.data.toList := by
          have h1 := hkl.symm.trans ek
          simpa [keyL] using h1
        rw [this]
      rw [ek] at hlk hrg
      rw [e2] at hen ⊢
      exact hMore q w' cnt' hq hlk hrg hlt hgr hsz hen)
set_option maxRecDepth 100000 in
set_option maxHeartbeats 1000000 in
theorem exit_ok (B T M : Nat) (bl : ByteArray → Nat) (L : List PR) (id : ByteArray) (status : Int) (w : World) (p : PR) (h : TabAt w B T M bl L) (hid : id.size ≤ maxLen) (hg : get L id = some p) (hx : p.exited = false) (h1 : id ≠ oneB) :
    Calls Tryz.prog 28 #[ptr T, .string id, .int .i64 status] w fun e w' => e = .returned (.int .i64 0) ∧ TabAt w' B T M bl (moveP (childOf id) (updP (exitP p status) L)) ∧ Bel B w w' := by
  obtain ⟨hpL, hpid⟩ := get_mem hg
  have ho := of_any B T M bl L id w h hid
  obtain ⟨e1, e2⟩ := of_live (bl := bl) hg hx
  rw [e1, e2] at ho
  obtain ⟨vS, vI, vP, vM, hp⟩ := h.procs p hpL
  have c8 : w.cell? ⟨bl p.id, 8, none⟩ = some (.bool p.exited) := hp.cell 8
  have c7 : w.cell? ⟨bl p.id, 7, none⟩ = some (.int .i64 p.status) := hp.cell 7
  have f8 : w.frozen? ⟨bl p.id, 8, none⟩ = false := hp.frozen 8
  have f7 : w.frozen? ⟨bl p.id, 7, none⟩ = false := hp.frozen 7
  obtain ⟨W, hW⟩ : ∃ W, W = (w.setCell ⟨bl p.id, 8, none⟩ (.bool true)).setCell ⟨bl p.id, 7, none⟩ (.int .i64 status) := ⟨_, rfl⟩
  have hAt : At66 w W (bl p.id) ((exitP p status).cells vS vI vP vM) := by rw [hW]; exact ((At66.start hp.row).set 8 _).set 7 _
  obtain ⟨hT1, hB1⟩ := h.at66 (p' := exitP p status) hpL rfl hAt hp.hS hp.hI hp.hP hp.hM
  have d1 : (id.toList == [49]) = false := by rw [one_eq]; simpa using h1
  have hTab := Lib.hid hT1
  have hWB := Lib.hid hB1
  have c0 := hT1.cellT
  generalize hL1 : updP (exitP p status) L = L1 at *
  unfold ptr at *
  generalize hb : bl p.id = g at *
  clear hp hAt hT1 hB1 h e1 e2
  go_enter Tryz.func28, Tryz.ntmps28
  go_upto_region 7 with (go_at_call 23; refine ho.mono ?_; rintro e w1 ⟨rfl, rfl⟩)
  rw [← hW]
  clear hW
  go_wp2_with (first | (at_range; refine wpList_range_own _ rfl _ 69 rfl 9 66 law9 und67 _ M _ _ rfl hTab.out.map ?_; intro w0 hrg0 hg0 hs0) | go_in)
  go_frame
  have hBW : B ≤ W.heap.size := by have := hTab.out.lowT; have := hTab.out.ltT; omega
  have b0 : Below W.heap.size W w0 := ⟨hg0.os, hg0.tape, hg0.output, hg0.size, fun k hk => hg0.block k hk (by simp)⟩
  go_loopw [10] (fun _ wr => ∃ left cnt, wr.ranges Tryz.prog 9 readP M W.heap.size L1.length (encT bl L1) left cnt ∧ TabAt wr B T M bl (mvL (childOf id) left L1) ∧ Bel B w1 wr) (fun _ wr => wr.rangeLeft M W.heap.size)
  case atStart => exact ⟨_, _, hrg0, by rw [mvL_start]; exact hTab.out.below b0, hWB.out.trans (b0.bel hBW)⟩
  case round =>
    obtain ⟨left, cnt, hrg, hTr, hbr⟩ := hrel
    go_wp2_with (first | (at_next; refine wpList_next_procs _ rfl _ rfl M W.heap.size _ bl L1 left cnt rfl hrg ?_ ?_) | go_in)
    · intro hc0 hl0
      go_wp2
      go_ret
      rw [mvL_end _ _ hl0] at hTr
      exact ⟨rfl, hTr, hbr⟩
    · intro q w2 cnt2 hq hlq hrg2 hlt hg2 hs2 hen
      have hT2 := hTr.iter hrg hg2
      have hb2 : Bel B w1 w2 := hbr.grown66 hg2 (by have := hbr.size; have := hTr.lowT; have := hTr.ltT; omega) hBW (iter_no_cells hrg)
      have hqm := mvL_mem (f := childOf id) hq hlq
      obtain ⟨a, b, c, d, hpq⟩ := hT2.procs q hqm
      have k1 : w2.cell? ⟨bl q.id, 1, none⟩ = some (.string q.par) := hpq.cell 1
      have g1 : w2.frozen? ⟨bl q.id, 1, none⟩ = false := hpq.frozen 1
      have hu := hTab.out.uniq
      by_cases hf : q.par = id
      · have d2 : (q.par.toList == id.toList) = true := by rw [str_eq]; simpa using hf
        have hset := hT2.set (p' := toOne q) hqm rfl 1 (.string ⟨#[49]⟩) (fun a b c d => rfl) rfl rfl rfl rfl
        rw [← mvL_step hu hq (by simpa [childOf] using hf)] at hset
        have hlow := hT2.lowP q hqm
        have hrow66 := hpq.row
        have hgs := grown_set w2 ⟨bl q.id, 1, none⟩ (.string ⟨#[49]⟩)
        have hneM := hT2.neM hqm
        have hner : W.heap.size ≠ bl q.id := by have := hTab.out.ltP hq; omega
        have hrg3 := hrg2.kept hgs (by simpa using hneM) (by simpa using hner)
        clear hpq hf
        go_wp2
        go_roundw
        case rel => exact ⟨_, _, hrg3, hset, hb2.set66 hrow66 hlow _ hT2.lowB⟩
        case measure => rw [hrg3.left_eq, hrg.left_eq]; exact hlt
      · have d2 : (q.par.toList == id.toList) = false := by rw [str_eq]; simpa using hf
        have hset := hT2
        rw [← mvL_skip hu hq (by simpa [childOf] using hf)] at hset
        clear hpq hf
        go_wp2
        go_roundw
        case rel => exact ⟨_, _, hrg2, hset, hb2⟩
        case measure => rw [hrg2.left_eq, hrg.left_eq]; exact hlt
set_option maxRecDepth 100000 in
theorem exit_no (B T M : Nat) (bl : ByteArray → Nat) (L : List PR) (id : ByteArray) (status : Int) (w : World) (h : TabAt w B T M bl L) (hid : id.size ≤ maxLen) (hc : exitErr L id ≠ 0) :
    Calls Tryz.prog 28 #[ptr T, .string id, .int .i64 status] w fun e w' => e = .returned (.int .i64 (exitErr L id)) ∧ w' = w := by
  have ho := of_any B T M bl L id w h hid
  rcases of_cases bl L id with ⟨p, hg, hx, e1, e2⟩ | ⟨e1, e2, e3⟩
  · rw [e1, e2] at ho
    have hfe : exitErr L id = if id = oneB then 1 else 0 := by unfold exitErr; rw [hg]; simp [hx]
    rw [hfe] at hc ⊢
    have h1 : id = oneB := by by_cases h : id = oneB; exact h; rw [if_neg h] at hc; exact absurd rfl hc
    rw [if_pos h1]
    have d1 : (id.toList == [49]) = true := by rw [one_eq]; simpa using h1
    generalize bl p.id = g at *
    unfold ptr at *
    clear hc hfe h1 e1 e2 hg
    go_enter Tryz.func28, Tryz.ntmps28
    go_wp2_with (go_at_call 23; refine ho.mono ?_; rintro e w1 ⟨rfl, rfl⟩)
    go_ret
    exact ⟨rfl, rfl⟩
  · rw [e1] at ho
    have hfe : exitErr L id = ofCode L id := by
      unfold exitErr ofCode
      unfold ofCode at e2
      cases hg : get L id with
      | none => rfl
      | some p => rw [hg] at e2; simp only at e2 ⊢; split <;> simp_all
    rw [hfe]
    generalize ofCode L id = c at *
    unfold ptr at *
    go_enter Tryz.func28, Tryz.ntmps28
    go_wp2_with (go_at_call 23; refine ho.mono ?_; rintro e w1 ⟨rfl, rfl⟩)
    go_ret
    exact ⟨rfl, rfl⟩
end Go.Proofs.YtmphnoabkmoafaaGreatDoor
