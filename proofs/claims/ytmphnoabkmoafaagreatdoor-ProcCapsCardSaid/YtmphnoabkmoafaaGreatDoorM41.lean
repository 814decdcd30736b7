/- Live: the names of all that have not exited. -/
import Derived.Shelf.SlicesE.DeleteFunc
import Derived.Lib.OwnBridge
import Derived.Test.YtmphnoabkmoafaaGreatDoorM27
import Derived.Test.YtmphnoabkmoafaaGreatDoorM23
namespace Go.Proofs.YtmphnoabkmoafaaGreatDoor
open Go.RowKit Go.Maps Go.Sort
set_option linter.unusedVariables false
variable {uu0 : Unit} [Base uu0]
def laysDel_ren : Go.Shelf.Ren := ⟨fun | 6 => 87 | 10 => 51 | n => n, fun | 0 => 0 | 3 => 3 | 4 => 4 | 22 => 57 | 23 => 9 | 25 => 108 | n => n, fun | n => n⟩
theorem laysDel : Go.Proofs.SlLaysH.n10 Tryz.prog laysDel_ren := {
  mixed := by kernel_rfl
  f6 := ⟨Tryz.f87.name, by decide, Tryz.func87.trans (congrArg some (by kernel_rfl))⟩
  f10 := ⟨Tryz.f51.name, by decide, Tryz.func51.trans (congrArg some (by kernel_rfl))⟩
  t0 := Tryz.underlying0
  a0 := Tryz.isAgg0
  z0 := Tryz.sizeOf0
  v0 := Tryz.zeroValue0
  t3 := Tryz.underlying3
  a3 := Tryz.isAgg3
  z3 := Tryz.sizeOf3
  v3 := Tryz.zeroValue3
  t4 := Tryz.underlying4
  a4 := Tryz.isAgg4
  z4 := Tryz.sizeOf4
  v4 := Tryz.zeroValue4
  t22 := Tryz.underlying57
  a22 := Tryz.isAgg57
  z22 := Tryz.sizeOf57
  v22 := Tryz.zeroValue57
  a23 := Tryz.isAgg9
  z23 := Tryz.sizeOf9
  t25 := Tryz.underlying108
  a25 := Tryz.isAgg108
  z25 := Tryz.sizeOf108
  v25 := Tryz.zeroValue108 }
/-- A slice of strings that lies in a block of strings. -/
def RowS (w : World) (v : Value) (l : List ByteArray) : Prop := ∃ ao c, v = .slice ao l.length c ∧ ∀ j (hj : j < l.length), ∃ g cur, ao = some ⟨g, 0, none⟩ ∧ w.heap[g]? = some (.cells cur 9 (0, 0)) ∧ cur[j]? = some (.string l[j])
section
variable {w w' : World} {v : Value} {l : List ByteArray} {B T M : Nat} {bl : ByteArray → Nat} {L : List PR}
theorem RowS.still (h : RowS w v l) (k : Still w w') : RowS w' v l := by
  obtain ⟨ao, c, e, hc⟩ := h
  refine ⟨ao, c, e, fun j hj => ?_⟩
  obtain ⟨g, cur, h1, h2, h3⟩ := hc j hj
  exact ⟨g, cur, h1, k _ _ _ _ h2 (by decide), h3⟩
theorem RowS.cell (h : RowS w v l) {j : Nat} (hj : j < l.length) : ∃ g c, v = .slice (some ⟨g, 0, none⟩) l.length c ∧ g < w.heap.size ∧ w.cell? ⟨g, j, none⟩ = some (.string l[j]) := by
  obtain ⟨ao, c, e, hc⟩ := h
  obtain ⟨g, cur, h1, h2, h3⟩ := hc j hj
  exact ⟨g, c, by rw [e, h1], (Array.getElem?_eq_some_iff.1 h2).1, by rw [cell_of_row w g j _ 9 (0, 0) h2]; exact h3⟩
theorem RowS.of_owns {g n cap c : Nat} (h : w.ownsRow B 9 1 (.slice (some ⟨g, 0, none⟩) n cap) n (l.map Value.string)) (hn : n = l.length) : RowS w (.slice (some ⟨g, 0, none⟩) n c) l := by
  subst hn
  refine ⟨some ⟨g, 0, none⟩, c, rfl, fun j hj => ?_⟩
  obtain ⟨h0, ⟨e, e2⟩ | ⟨g', cap', cur, e1, e2, e3, h1, h2, h3, h4⟩⟩ := h
  · omega
  · injection e1 with f1 f2 f3
    injection f1 with f1
    injection f1 with f1
    subst f1
    refine ⟨g, cur, rfl, e3, ?_⟩
    have : (cur.toList.take (l.length * 1))[j]? = (l.map Value.string)[j]? := by rw [h4]
    rw [List.getElem?_take_of_lt (by omega)] at this
    rw [← Array.getElem?_toList, this]
    simp [hj]
set_option maxRecDepth 100000 in
/-- The closure of Live. -/
theorem live1_any (w : World) (h : TabAt w B T M bl L) (bx : Nat) (hbx : w.cell? ⟨bx, 0, none⟩ = some (ptr T)) (p : PR) (hp : p ∈ L) (hid : p.id.size ≤ maxLen) :
    Calls Tryz.prog 53 #[.string p.id, ptr bx] w fun e w' => e = .returned (.bool p.exited) ∧ ∃ q, w' = w.drewN q := by
  have hrun := h.lookup p.id hid
  have hu := h.uniq
  have c0 := h.cellT
  unfold ptrOf at hrun
  cases hg : get L p.id with
  | none =>
    have := List.find?_eq_none.1 hg p hp
    simp at this
  | some q =>
    have hqp : q = p := hu q (get_mem hg).1 p hp (get_mem hg).2
    subst hqp
    rw [hg] at hrun
    simp only at hrun
    obtain ⟨a, b, c, d, hpp⟩ := h.procs q hp
    have c8 : w.cell? ⟨bl q.id, 8, none⟩ = some (.bool q.exited) := hpp.cell 8
    unfold ptr at hrun hbx ⊢
    generalize bl q.id = k at *
    generalize q.exited = ex at *
    generalize q.id = id at *
    clear hg hu h hpp hp
    go_enter Tryz.func53, Tryz.ntmps53
    go_wp2
    go_ret
    exact ⟨rfl, 0, rfl⟩
/-- Who is kept of the first j. -/
def keptL (L : List PR) (j : Nat) : List PR := (L.take j).filter fun p => !p.exited
structure DelI (L : List PR) (cs : Array Value) (i j : Nat) : Prop where
  len : i = (keptL L j).length
  low : ∀ t, t < i → cs[t]? = ((keptL L j)[t]?).map fun p => .string p.id
  high : ∀ t, j ≤ t → t < L.length → cs[t]? = (L[t]?).map fun p => .string p.id
  size : L.length ≤ cs.size
  str : ∀ t, t < L.length → ∃ s : ByteArray, cs[t]? = some (.string s)
theorem keptL_le (L : List PR) (j : Nat) : (keptL L j).length ≤ j := by
  unfold keptL
  exact Nat.le_trans (List.length_filter_le _ _) (by rw [List.length_take]; omega)
theorem keptL_step {L : List PR} {j : Nat} (hj : j < L.length) : keptL L (j + 1) = if L[j].exited then keptL L j else keptL L j ++ [L[j]] := by
  unfold keptL
  rw [List.take_succ_eq_append_getElem hj, List.filter_append]
  cases h : L[j].exited <;> simp [h]
theorem DelI.skip {cs : Array Value} {i j : Nat} (h : DelI L cs i j) (hj : j < L.length) (hx : L[j].exited = true) : DelI L cs i (j + 1) := by
  have e : keptL L (j + 1) = keptL L j := by rw [keptL_step hj, if_pos hx]
  exact ⟨by rw [e]; exact h.len, by rw [e]; exact h.low, fun t h1 h2 => h.high t (by omega) h2, h.size, h.str⟩
theorem DelI.keep {cs : Array Value} {i j : Nat} (h : DelI L cs i j) (hij : i < j) (hj : j < L.length) (hx : L[j].exited = false) : DelI L (cs.setIfInBounds i (.string L[j].id)) (i + 1) (j + 1) := by
  have e : keptL L (j + 1) = keptL L j ++ [L[j]] := by rw [keptL_step hj, if_neg (by simp [hx])]
  have hs := h.size
  refine ⟨by rw [e, List.length_append, ← h.len]; rfl, fun t ht => ?_, fun t h1 h2 => ?_, by rw [Array.size_setIfInBounds]; exact hs, fun t ht => ?_⟩
  · rw [e]
    by_cases hti : t = i
    · subst hti
      rw [Array.getElem?_setIfInBounds_self_of_lt (by omega), List.getElem?_append_right (by rw [← h.len]; exact Nat.le_refl _), ← h.len]
      simp
    · rw [Array.getElem?_setIfInBounds_ne (by omega), List.getElem?_append_left (by rw [← h.len]; omega)]
      exact h.low t (by omega)
  · rw [Array.getElem?_setIfInBounds_ne (by omega)]
    exact h.high t (by omega) h2
  · by_cases hti : t = i
    · subst hti
      exact ⟨_, Array.getElem?_setIfInBounds_self_of_lt (by omega)⟩
    · rw [Array.getElem?_setIfInBounds_ne (by omega)]
      exact h.str t ht
theorem AtT.drewN {t : TypeId} {w w' : World} {g : Nat} {cs : Array Value} (h : AtT t w w' g cs) (q : Nat) : AtT t w (w'.drewN q) g cs := ⟨h.row, h.was, h.far, ⟨h.below.os, h.below.tape, h.below.output, h.below.size, h.below.block⟩⟩
theorem AtT.setCells {t : TypeId} {w w' : World} {g : Nat} {cs : Array Value} (h : AtT t w w' g cs) : ∀ (xs : List Value) (o : Nat), ∃ cs', AtT t w (w'.setCells g o xs) g cs' ∧ cs'.size = cs.size ∧ ∀ k, k < o → cs'[k]? = cs[k]?
  | [], o => ⟨cs, h, rfl, fun _ _ => rfl⟩
  | x :: r, o => by
    obtain ⟨cs', h1, h2, h3⟩ := (h.set o x).setCells r (o + 1)
    refine ⟨cs', h1, by rw [h2, Array.size_setIfInBounds], fun k hk => ?_⟩
    rw [h3 k (by omega), Array.getElem?_setIfInBounds_ne (by omega)]
set_option maxRecDepth 100000 in
set_option maxHeartbeats 2000000 in
/-- slices.DeleteFunc, of all names, by the closure. -/
theorem del_any (w : World) (h : TabAt w B T M bl L) (h0 : 0 < L.length) (hl : L.length ≤ 1000000) (hid : ∀ p ∈ L, p.id.size ≤ maxLen) (bx g cap : Nat) (hrow : w.heap[bx]? = some (.cells #[ptr T] 24 (0, 0))) (cur : Array Value) (hg : w.heap[g]? = some (.cells cur 9 (0, 0)))
    (hlog : Base.lo ≤ g) (hcap : L.length ≤ cap) (hcm : cap ≤ maxLen) (hsz : L.length ≤ cur.size) (hcur : ∀ t, t < L.length → cur[t]? = (L[t]?).map fun p => .string p.id) :
    Calls Tryz.prog 51 #[.slice (some ⟨g, 0, none⟩) L.length cap, .func (.func 53) #[] #[ptr bx]] w fun e w' => ∃ cs, e = .returned (.slice (some ⟨g, 0, none⟩) (keptL L L.length).length cap) ∧ AtT 9 w w' g cs ∧ ∀ t, t < (keptL L L.length).length → cs[t]? = ((keptL L L.length)[t]?).map fun p => .string p.id := by
  haveI : Inhabited {p : PR // p ∈ L} := ⟨⟨L[0], List.getElem_mem h0⟩⟩
  have hbx0 : w.cell? ⟨bx, 0, none⟩ = some (ptr T) := by rw [cell_of_row _ _ 0 _ 24 (0, 0) hrow]; rfl
  have hbxl : bx < w.heap.size := (Array.getElem?_eq_some_iff.1 hrow).1
  have hne : bx ≠ g := fun e => by rw [e, hg] at hrow; cases hrow
  have eg : ∀ args w, (callFunc 53 args).run Tryz.prog w = .ok (.enter 53 args) w := enters_of Tryz.func53 (by kernel_rfl) rfl
  have hat : ∀ j (hj : j < L.length), L.attach[j]! = ⟨L[j], List.getElem_mem hj⟩ := fun j hj => by
    rw [getElem!_pos L.attach j (by simpa using hj)]
    simp
  have hIF := AnyE.slices_IndexFunc (P := Tryz.prog) (ρ := laysDel_ren) { laysDel with } (fun x : {p : PR // p ∈ L} => Value.string x.1.id) (fun x => x.1.exited) 53 #[ptr bx] eg g 0 L.length cap L.attach w
    (fun W x hb => live1_any W (h.below hb) bx ((hb.cell (p := ⟨bx, 0, none⟩) hbxl).trans hbx0) x.1 x.2 (hid _ x.2)) (by simp) (by omega) (fun j hj => by
      have hj' : j < L.length := by simpa using hj
      rw [Nat.zero_add, cell_of_row w g j _ 9 (0, 0) hg, hcur j hj', hat j hj']
      simp [hj'])
  rw [List.take_of_length_le (by simp)] at hIF
  change Calls Tryz.prog 87 _ _ _ at hIF
  -- the closure, wherever the row has been turned
  have KC : Hid (∀ (W : World) (cs : Array Value) (j : Nat) (hj : j < L.length), AtT 9 w W g cs → Calls Tryz.prog 53 #[.string L[j].id, ptr bx] W fun e w' => e = .returned (.bool L[j].exited) ∧ ∃ q, w' = W.drewN q) := fun W cs j hj hA =>
    live1_any W (h.away hA (by decide) (by decide) (by decide) hlog) bx (by
      have e : W.heap[bx]? = some (.cells #[ptr T] 24 (0, 0)) := (hA.far bx hne).trans hrow
      rw [cell_of_row _ _ 0 _ 24 (0, 0) e]; rfl) _ (List.getElem_mem hj) (hid _ (List.getElem_mem hj))
  have A0 := Lib.hid (AtT.start hg)
  have HCUR := Lib.hid hcur
  have HSZ := Lib.hid hsz
  have H0 := Lib.hid h0
  rcases idxByFrom_spec (fun (_ : {p : PR // p ∈ L}) (y : {p : PR // p ∈ L}) => y.1.exited) default L.attach 0 with ⟨e1, hall⟩ | ⟨k0, hk0, e1, ht, hall⟩
  · have e2 : Lib.idxBy (fun (_ : {p : PR // p ∈ L}) (y : {p : PR // p ∈ L}) => y.1.exited) L.attach default = -1 := e1
    rw [e2] at hIF
    have hk : keptL L L.length = L := by
      unfold keptL
      rw [List.take_length, List.filter_eq_self]
      intro p hp
      obtain ⟨j, hj, rfl⟩ := List.getElem_of_mem hp
      have := hall j (by simpa using hj)
      rw [hat j hj] at this
      simpa using this
    rw [hk]
    have HIF := Lib.hid hIF
    clear hIF h hid hat hall e1 e2 hrow hg hcur hsz hbx0 KC h0
    obtain ⟨n, hn⟩ : ∃ n, n = L.length := ⟨_, rfl⟩
    have HN := Lib.hid hn
    rw [← hn] at HIF hl hcap ⊢
    clear hn
    unfold ptr at *
    go_enter Tryz.func51, Tryz.ntmps51
    go_wp2_with (go_at_call 87; refine HIF.out.mono ?_; rintro e w1 ⟨rfl, q, rfl⟩)
    go_ret
    exact ⟨cur, rfl, A0.out.drewN q, fun t ht => HCUR.out t (by rw [← HN.out]; exact ht)⟩
  · have hk0' : k0 < L.length := by simpa using hk0
    have e2 : Lib.idxBy (fun (_ : {p : PR // p ∈ L}) (y : {p : PR // p ∈ L}) => y.1.exited) L.attach default = (k0 : Int) := by unfold Lib.idxBy; rw [e1]; simp
    rw [e2] at hIF
    have hx0 : L[k0].exited = true := by
      have := ht
      rw [hat k0 hk0'] at this
      exact this
    have hkt : keptL L k0 = L.take k0 := by
      unfold keptL
      rw [List.filter_eq_self]
      intro p hp
      obtain ⟨j, hj, rfl⟩ := List.getElem_of_mem hp
      have hj1 : j < k0 := by rw [List.length_take] at hj; omega
      have := hall j hj1
      rw [hat j (by omega)] at this
      rw [List.getElem_take]
      simpa using this
    have D0 : Hid (DelI L cur k0 (k0 + 1)) := by
      have e : keptL L (k0 + 1) = L.take k0 := by rw [keptL_step hk0', if_pos hx0, hkt]
      refine ⟨by rw [e, List.length_take]; omega, fun t ht => ?_, fun t h1 h2 => hcur t h2, hsz, fun t ht => ⟨L[t].id, by rw [hcur t ht]; simp [ht]⟩⟩
      rw [e, hcur t (by omega), List.getElem?_take_of_lt ht]
    have hne1 : ((k0 : Int) == -1) = false := beq_eq_false_iff_ne.2 (by omega)
    have HIF := Lib.hid hIF
    have HCL : Hid (∀ (W : World) (cs : Array Value) (i n : Nat), 0 < n → AtT 9 w W g cs → i + n ≤ cs.size → (∀ t, t < n → ∃ s : ByteArray, cs[i + t]? = some (.string s)) → ∀ ty c, (Builtin.clear_ #[57] ty #[.slice (some ⟨g, i, none⟩) n c]).run Tryz.prog W = .ok (.tuple #[]) (W.setCells g i (List.replicate n (.string ⟨#[]⟩)))) := fun W cs i n hn hA hs hc ty c =>
      Lib.run_clear_slice W 57 9 ty _ Tryz.underlying57 (fun w => Tryz.zeroValue9 w) rfl rfl g i _ _ hn (fun t ht => by
        obtain ⟨s, hs⟩ := hc t ht
        rw [hA.cell, hs]; rfl) (fun t ht => hA.frozen _)
    clear hIF h hid hat hall e1 e2 hrow hg hcur hsz hbx0 hkt hx0 h0 ht
    have HL := Lib.hid hl
    obtain ⟨n, hn⟩ : ∃ n, n = L.length := ⟨_, rfl⟩
    have HN := Lib.hid hn
    rw [← hn] at HIF hl hcap hk0' HSZ H0 ⊢
    clear hn hk0
    unfold ptr at *
    go_enter Tryz.func51, Tryz.ntmps51
    go_wp2_with (go_at_call 87; refine HIF.out.mono ?_; rintro e w1 ⟨rfl, q, rfl⟩)
    have A1 := A0.out.drewN q
    go_loopw [5, 6, 7] (fun u v x wr => ∃ i j cs, u = .int .i64 (i : Nat) ∧ v = .int .i64 (j : Nat) ∧ i < j ∧ j ≤ n ∧ AtT 9 w wr g cs ∧ DelI L cs i j) (fun _ v _ _ => n - (intOf v).toNat)
    case atStart => exact ⟨k0, k0 + 1, cur, rfl, by go_num, by omega, by omega, A1, D0.out⟩
    case round =>
      obtain ⟨i, j, cs, rfl, rfl, hij, hjn, hA, hD⟩ := hrel
      have HD := Lib.hid hD
      have HA := Lib.hid hA
      have hsn : n ≤ cs.size := by have := hD.size; have := HN.out; omega
      by_cases hlt : j < n
      · have hjL : j < L.length := by rw [← HN.out]; exact hlt
        obtain ⟨p, hp⟩ : ∃ p, p = L[j] := ⟨_, rfl⟩
        have c0 : wr.cell? ⟨g, j, none⟩ = some (.string p.id) := by rw [hA.cell, hD.high j (Nat.le_refl _) hjL, hp]; simp [hjL]
        obtain ⟨old, hold⟩ := hD.str i (by omega)
        have c1 : ∀ q, (wr.drewN q).cell? ⟨g, i, none⟩ = some (.string old) := fun q => by rw [(hA.drewN q).cell]; exact hold
        have f1 : ∀ q, (wr.drewN q).frozen? ⟨g, i, none⟩ = false := fun q => (hA.drewN q).frozen i
        have hcall := KC.out wr cs j hjL hA
        have HJ := Lib.hid hjL
        have Hp : Hid (p = L[j]) := hp
        rw [← hp] at hcall
        clear hA hD hp hold hjL
        obtain ⟨ex, hex⟩ : ∃ ex, ex = p.exited := ⟨_, rfl⟩
        rw [← hex] at hcall
        obtain ⟨id, hid⟩ : ∃ id, id = p.id := ⟨_, rfl⟩
        rw [← hid] at hcall c0
        have Hex := Lib.hid hex
        have Hid' := Lib.hid hid
        clear hex hid
        try unfold ptr at hcall
        cases ex
        · go_wp2_with (go_at_call 53; refine hcall.mono ?_; rintro e w2 ⟨rfl, q2, rfl⟩)
          go_roundw
          case rel => exact ⟨i + 1, j + 1, cs.setIfInBounds i (.string id), by go_num, by go_num, by omega, by omega, (HA.out.drewN q2).set i _, by rw [Hid'.out, Hp.out]; exact HD.out.keep hij HJ.out ((Hex.out.trans (congrArg PR.exited Hp.out)).symm)⟩
          case measure => simp [intOf]; omega
        · go_wp2_with (go_at_call 53; refine hcall.mono ?_; rintro e w2 ⟨rfl, q2, rfl⟩)
          go_roundw
          case rel => exact ⟨i, j + 1, cs, rfl, by go_num, by omega, by omega, HA.out.drewN q2, HD.out.skip HJ.out ((Hex.out.trans (congrArg PR.exited Hp.out)).symm)⟩
          case measure => simp [intOf]; omega
      · obtain rfl : j = n := by omega
        have hcl := HCL.out wr cs i (j - i) (by omega) hA (by omega) (fun t ht => hD.str (i + t) (by rw [← HN.out]; omega))
        clear hA hD
        go_wp2
        go_ret
        obtain ⟨cs', h1, h2, h3⟩ := HA.out.setCells (List.replicate (j - i) (.string ⟨#[]⟩)) i
        have hl := HD.out.len
        have hlow := HD.out.low
        refine ⟨cs', ?_, h1, fun t ht => ?_⟩
        · rw [← hl]; rfl
        · rw [h3 t (by omega)]; exact hlow t (by omega)
set_option maxRecDepth 100000 in
theorem clipS_any (g n cap : Nat) (w : World) (h1 : n ≤ cap) (h2 : cap ≤ maxLen) :
    Calls Tryz.prog 50 #[.slice (some ⟨g, 0, none⟩) n cap] w fun e w' => e = .returned (.slice (some ⟨g, 0, none⟩) n n) ∧ w' = w := by
  unfold maxLen at h2
  go_enter Tryz.func50, Tryz.ntmps50
  go_wp2
  go_ret
  exact ⟨rfl, rfl⟩
set_option maxRecDepth 100000 in
set_option maxHeartbeats 1000000 in
theorem live_any (w : World) (h : TabAt w B T M bl L) (h0 : 0 < L.length) (hl : L.length ≤ 1000000) (hid : ∀ p ∈ L, p.id.size ≤ maxLen) :
    Calls Tryz.prog 17 #[ptr T] w fun e w' => ∃ v, e = .returned v ∧ RowS w' v ((L.filter fun p => !p.exited).map PR.id) ∧ Below w.heap.size w w' := by
  obtain ⟨W, hW⟩ : ∃ W, W = w.alloc (.cells #[ptr T] 24) := ⟨_, rfl⟩
  have bW : Below w.heap.size w W := by rw [hW]; exact (Below.refl _ _).alloc (Nat.le_refl _) _
  have hTW := h.below bW
  have row : W.heap[w.heap.size]? = some (.cells #[ptr T] 24 (0, 0)) := by rw [hW]; exact heap_alloc_new w _
  have x0 : W.cell? ⟨w.heap.size, 0, none⟩ = some (ptr T) := by rw [cell_of_row _ _ 0 _ 24 (0, 0) row]; rfl
  have hlt : w.heap.size < W.heap.size := (Array.getElem?_eq_some_iff.1 row).1
  have hs := sorted_any B T M bl L W hTW hl
  have hlo0 : Base.lo ≤ W.heap.size := by have := hTW.lowB; have := hTW.lowT; have := hTW.ltT; omega
  obtain ⟨bx, hbx⟩ : ∃ bx, bx = w.heap.size := ⟨_, rfl⟩
  have HBX := Lib.hid hbx
  rw [← hbx] at x0 hlt row
  have KD : Hid (∀ (v : Value) (w1 : World), w1.ownsRow W.heap.size 9 1 v L.length (L.map fun p => .string p.id) → Below W.heap.size W w1 → ∃ g cap, v = .slice (some ⟨g, 0, none⟩) L.length cap ∧
      (Calls Tryz.prog 51 #[.slice (some ⟨g, 0, none⟩) L.length cap, .func (.func 53) #[] #[ptr bx]] w1 fun e w' => ∃ k, e = .returned (.slice (some ⟨g, 0, none⟩) k cap) ∧ k ≤ cap ∧ cap ≤ maxLen ∧ (∀ c', RowS w' (.slice (some ⟨g, 0, none⟩) k c') ((L.filter fun p => !p.exited).map PR.id)) ∧ Below W.heap.size W w')) := fun v w1 hown hb => by
    rcases hown.2 with ⟨e, e2⟩ | ⟨g, cap, cur, rfl, hBg, hg, hn, hm, hsz, htake⟩
    · omega
    · refine ⟨g, cap, rfl, ?_⟩
      have hcur : ∀ t, t < L.length → cur[t]? = (L[t]?).map fun p => .string p.id := fun t ht => by
        have : (cur.toList.take (L.length * 1))[t]? = (L.map fun p => Value.string p.id)[t]? := by rw [htake]
        rw [List.getElem?_take_of_lt (by omega)] at this
        rw [← Array.getElem?_toList, this, List.getElem?_map]
      have hszc : L.length ≤ cur.size := by
        have := congrArg List.length htake
        rw [List.length_take, List.length_map, Array.length_toList] at this
        omega
      have hkl := keptL_le L L.length
      refine (del_any w1 (hTW.below hb) h0 hl hid bx g cap ((hb.block bx hlt).trans row) cur hg (Nat.le_trans hlo0 hBg) hn hm hszc hcur).mono ?_
      rintro e w' ⟨cs, rfl, hA, hc⟩
      have ek : keptL L L.length = L.filter fun p => !p.exited := by unfold keptL; rw [List.take_length]
      rw [ek] at hc hkl ⊢
      refine ⟨_, rfl, by omega, hm, fun c' => ⟨some ⟨g, 0, none⟩, c', by rw [List.length_map], fun j hj => ⟨g, cs, rfl, hA.row, ?_⟩⟩, hb.trans (hA.below.mono hBg)⟩
      rw [List.length_map] at hj
      rw [hc j hj]
      simp [hj]
  have HB := Lib.hid bW
  clear h hTW bW hid hl h0 hbx
  generalize (L.filter fun p => !p.exited).map PR.id = res at *
  obtain ⟨n, hn⟩ : ∃ n, n = L.length := ⟨_, rfl⟩
  rw [← hn] at KD hs
  unfold ptr at *
  go_enter Tryz.func17, Tryz.ntmps17
  go_upto_region 1 with (fail)
  rw [← hW, ← HBX.out]
  clear hW
  have hmf : ∀ (fn : Fn) (first cap : Array Value) (w : World), (Instr.makeFunc fn first cap).run Tryz.prog w = .ok (.func fn first cap) w := fun _ _ _ _ => rfl
  go_wp2_with (go_at_call 52; refine hs.mono ?_; rintro e w1 ⟨v1, rfl, hown, b1⟩; have kd := KD.out v1 w1 hown b1)
  obtain ⟨g, cap, rfl, kd⟩ := kd
  have KD2 := Lib.hid kd
  clear KD kd hown hs
  refine KD2.out.mono ?_
  rintro e w2 ⟨k, rfl, hkc, hcm, hR, b2⟩
  have HR := Lib.hid (hR k)
  clear hR KD2
  go_wp2_with (go_at_call 50; refine (clipS_any g k cap _ hkc hcm).mono ?_; rintro e w3 ⟨rfl, rfl⟩)
  go_ret
  exact ⟨_, rfl, HR.out, HB.out.trans (b2.mono HB.out.size)⟩
end
end Go.Proofs.YtmphnoabkmoafaaGreatDoor
