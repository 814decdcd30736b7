/- The walk of ProcTags. -/
import Derived.Test.YtmphnoabkmoafaaDoorTagsL
namespace Go.Proofs.YtmphnoabkmoafaaDoor
open Go.RowKit Go.Maps
set_option linter.unusedVariables false
theorem pick_len (f : Nat → Bool) : ∀ k, (pick2 f k).length ≤ k
  | 0 => by simp [pick2]
  | k + 1 => by
    have := pick_len f k
    unfold pick2
    rw [List.length_append]
    split <;> simp <;> omega
def tDD (p0 p1 m0 m1 : Bool) : PR := lessP tC (lst (!p0) (!p1)) (lst (!m0) (!m1))
theorem tfine (p0 p1 m0 m1 : Bool) : Fine (tDD p0 p1 m0 m1) := by
  cases p0 <;> cases p1 <;> cases m0 <;> cases m1 <;> exact fine_fineB (by kernel_rfl)
theorem tget {D : PR} (h : D.id = b11) : get [tP3, D] b11 = some D := by
  unfold get
  rw [List.find?_cons, show decide (tP3.id = b11) = false by kernel_rfl, List.find?_cons, decide_eq_true h]
theorem tupd (D D' : PR) (h : D.id = b11) (h' : D'.id = b11) : updP D' [tP3, D] = [tP3, D'] := by
  unfold updP
  rw [List.map_cons, List.map_cons, List.map_nil, if_neg (show ¬ tP3.id = D'.id from by rw [h']; decide), if_pos (h.trans h'.symm)]
theorem tmove (D : PR) (lS : List Int) (h : D.par = oneB) : moveP (leaves b11 lS []) [tP3, D] = [tP3, D] := by
  unfold moveP leaves childOf
  rw [List.map_cons, List.map_cons, List.map_nil, show decide (tP3.par = b11) = false by kernel_rfl, h, show decide (oneB = b11) = false by decide]
  simp
theorem tfines {D : PR} (h : Fine D) : ∀ q ∈ [tP3, D], Fine q := fun q hq => by
  rcases List.mem_cons.1 hq with rfl | hq
  · exact fine_fineB (by kernel_rfl)
  · rw [List.mem_singleton.1 hq]; exact h
theorem tfineR {D : PR} {lS : List Int} (h : Fine D) (hl : lS.length ≤ 17592186043904) : Fine (relP D lS []) := ⟨hl, by show (0 : Nat) ≤ _; omega, h.lP, h.lM, h.f0, h.f1, h.t0, h.t1, h.s0, h.s1, h.id1, h.idc⟩
theorem pick_step (f : Nat → Bool) (i : Nat) (b : Bool) (h : f i = b) : pick2 f (i + 1) = pick2 f i ++ (if b then [11 + (i : Int)] else []) := by
  rw [← h]
  rfl
set_option maxRecDepth 100000 in
set_option maxHeartbeats 8000000 in
theorem tags_any (plus minus to : Int) (w : World) :
    Calls Tryd.prog 8 #[.int .i64 plus, .int .i64 minus, .int .i64 to] w fun e w' => e = .returned (.bool true) ∧ Below w.heap.size w w' := by
  obtain ⟨i0, hinf, hz0, hz1, hz2⟩ := info_parts info3
  have c0 := new_ok 5 w (by omega) (by omega)
  have X0 := Lib.hid c0
  have X1 : Hid (∀ w1 B T M bl, TabAt w1 B T M bl [firstP 5] → Calls Tryd.prog 11 #[.pointer (some ⟨T, 0, none⟩), .string ⟨#[49]⟩] w1 fun e w' => e = .returned (.tuple #[.int .i64 11, .int .i64 0]) ∧ TabAt w' B T M bl [tP1] ∧ Bel B w1 w') := fun w1 B T M bl h => tagK_call (tagK1_eq t1_eq) h
  have X2 : Hid (∀ w1 B T M bl, TabAt w1 B T M bl [tP1] → Calls Tryd.prog 11 #[.pointer (some ⟨T, 0, none⟩), .string ⟨#[49]⟩] w1 fun e w' => e = .returned (.tuple #[.int .i64 12, .int .i64 0]) ∧ TabAt w' B T M bl [tP2] ∧ Bel B w1 w') := fun w1 B T M bl h => tagK_call t2_eq h
  have X3 : Hid (∀ w1 B T M bl, TabAt w1 B T M bl [tP2] → Calls Tryd.prog 13 #[.pointer (some ⟨T, 0, none⟩), .string ⟨#[49]⟩, .int .i64 0] w1 fun e w' => ∃ bl', e = .returned (.tuple #[.string b11, .int .i64 0]) ∧ TabAt w' B T M bl' [tP3, tC] ∧ Bel B w1 w') := fun w1 B T M bl h => forkK_call t3_eq h
  clear c0
  unfold ptr at X0
  obtain ⟨G0⟩ : Nonempty Nat := ⟨0⟩
  go_enter Tryd.func8, Tryd.ntmps8
  go_wp2_with (first
    | (go_at_call 10; refine X0.out.mono ?_; rintro e w1 ⟨T, M, bl, rfl, t1, b1⟩; have H1 := Lib.hid t1; have B1 := Lib.hid b1; clear t1 b1)
    | (go_at_call 11; have G1 := G0; clear G0; refine (X1.out _ _ _ _ _ H1.out).mono ?_; rintro e w2 ⟨rfl, t2, b2⟩; have H2 := Lib.hid t2; have B2 := Lib.hid (B1.out.trans b2.toBelow); clear t2 b2)
    | (go_at_call 11; have G2 := G1; clear G1; refine (X2.out _ _ _ _ _ H2.out).mono ?_; rintro e w3 ⟨rfl, t3, b3⟩; have H3 := Lib.hid t3; have B3 := Lib.hid (B2.out.trans b3.toBelow); clear t3 b3)
    | (go_at_call 13; refine (X3.out _ _ _ _ _ H3.out).mono ?_; rintro e w4 ⟨bl4, rfl, t4, b4⟩; have H4 := Lib.hid t4; have B4 := Lib.hid (B3.out.trans b4.toBelow); clear t4 b4))
  obtain ⟨wd, hwd⟩ : ∃ wd, wd = (w4.alloc (Obj.cells #[Value.slice none 0 0, Value.slice none 0 0] 43)).alloc (Obj.cells #[Value.int .i64 11, Value.int .i64 12] 3) := ⟨_, rfl⟩
  have hal : Below w4.heap.size w4 wd := by rw [hwd]; exact ((Below.refl _ _).alloc (Nat.le_refl _) _).alloc (by simp) _
  obtain ⟨d, hd⟩ : ∃ d, d = w4.heap.size := ⟨_, rfl⟩
  obtain ⟨g, hg⟩ : ∃ g, g = w4.heap.size + 1 := ⟨_, rfl⟩
  have hdg : d < g ∧ g < wd.heap.size := by rw [hwd, hd, hg]; simp
  have rowd : wd.heap[d]? = some (.cells #[.slice none 0 0, .slice none 0 0] 43 (0, 0)) := by
    obtain ⟨w5, h5⟩ : ∃ w5, w5 = w4.alloc (Obj.cells #[Value.slice none 0 0, Value.slice none 0 0] 43) := ⟨_, rfl⟩
    have s5 : w5.heap.size = w4.heap.size + 1 := by rw [h5]; simp
    rw [hwd, ← h5, Below.heap_alloc _ _ _ (by omega), h5, hd]
    exact heap_alloc_new w4 _
  have rowg : wd.heap[g]? = some (.cells #[.int .i64 11, .int .i64 12] 3 (0, 0)) := by
    obtain ⟨w5, h5⟩ : ∃ w5, w5 = w4.alloc (Obj.cells #[Value.slice none 0 0, Value.slice none 0 0] 43) := ⟨_, rfl⟩
    have s5 : w5.heap.size = w4.heap.size + 1 := by rw [h5]; simp
    rw [hwd, ← h5, hg, ← s5]
    exact heap_alloc_new w5 _
  have TM0 : TagsMem wd wd d (.slice none 0 0) (.slice none 0 0) (.slice none 0 0) [] [] [] := ⟨rowd, ⟨rfl, .inl ⟨rfl, rfl⟩⟩, ⟨rfl, .inl ⟨rfl, rfl⟩⟩, ⟨rfl, .inl ⟨rfl, rfl⟩⟩, (fun k e => by cases e), (fun k e => by cases e), (fun k e => by cases e), ⟨rfl, rfl, rfl, Nat.le_refl _, fun _ _ _ => rfl⟩, by omega⟩
  have HT := Lib.hid (H4.out.below hal)
  have HB := Lib.hid (B4.out.trans (hal.mono B4.out.size))
  have HTM := Lib.hid TM0
  have HRG := Lib.hid rowg
  have HRD : Hid (∃ cs, wd.heap[d]? = some (.cells cs 43 (0, 0))) := ⟨_, rowd⟩
  have HDG := Lib.hid hdg
  have HBd : Hid (w.heap.size ≤ d) := by rw [hd]; exact B4.out.size
  rw [← hwd, ← hg, ← hd]
  clear hwd hd hg hal rowd rowg TM0 hdg H1 H2 H3 H4 B1 B2 B3 B4
  go_loopw [17, 18, 19] (fun vS vm vi wr => ∃ (i : Nat) (vP vM : Value), vi = .int .i64 i ∧ i ≤ 2 ∧ vm = .bool (mayT (bitI plus) (bitI to) i) ∧ TagsMem wd wr d vP vM vS (pick2 (fun k => !bitI plus k) i) (pick2 (fun k => !bitI minus k) i) (pick2 (bitI to) i)) (fun _ _ vi _ => 2 - (intOf vi).toNat)
  case atStart => exact ⟨0, .slice none 0 0, .slice none 0 0, rfl, by omega, rfl, HTM.out⟩
  case round =>
    obtain ⟨i, vP, vM, rfl, hi2, rfl, hTM⟩ := hrel
    by_cases hi : i < 2
    · have hg0 : wr.heap[g]? = some (.cells #[.int .i64 11, .int .i64 12] 3 (0, 0)) := (hTM.far.block g HDG.out.2 (by have := HDG.out.1; rintro e; cases e; omega)).trans HRG.out
      have hzg : Hid (∀ w' : World, (w'.heap[g]? = wr.heap[g]?) → w'.cell? ⟨g, i, none⟩ = some (.int .i64 (11 + i))) := fun w' hw' => by
        rw [World.cell?_of_block (a := ⟨g, i, none⟩) hw']
        rw [cell_of_row wr g i _ 3 (0, 0) hg0]
        obtain rfl | rfl : i = 0 ∨ i = 1 := by omega
        · rfl
        · rfl
      have zg_unused : True := trivial
      have zg : wr.cell? ⟨g, i, none⟩ = some (.int .i64 (11 + i)) := by
        rw [cell_of_row wr g i _ 3 (0, 0) hg0]
        obtain rfl | rfl : i = 0 ∨ i = 1 := by omega
        · rfl
        · rfl
      have kp := bitI_walk plus i
      have km := bitI_walk minus i
      have kt := bitI_walk to i
      have HTM := Lib.hid hTM
      obtain ⟨p, hp⟩ : ∃ p, bitI plus i = p := ⟨_, rfl⟩
      obtain ⟨mm, hmm⟩ : ∃ p, bitI minus i = p := ⟨_, rfl⟩
      obtain ⟨tt, htt⟩ : ∃ p, bitI to i = p := ⟨_, rfl⟩
      rw [hp] at kp
      rw [hmm] at km
      rw [htt] at kt
      have HP := Lib.hid hp
      have HM := Lib.hid hmm
      have HTT := Lib.hid htt
      have HG0 := Lib.hid hg0
      have hln1 := pick_len (fun k => !bitI plus k) i
      have hln2 := pick_len (fun k => !bitI minus k) i
      have hln3 := pick_len (bitI to) i
      have hnP1 : (pick2 (fun k => !bitI plus k) i).length + 1 ≤ maxLen := by unfold maxLen; omega
      have hnP2 : ((pick2 (fun k => !bitI plus k) i).length + 1) * 8 ≤ 140737488355328 := by omega
      have hnM1 : (pick2 (fun k => !bitI minus k) i).length + 1 ≤ maxLen := by unfold maxLen; omega
      have hnM2 : ((pick2 (fun k => !bitI minus k) i).length + 1) * 8 ≤ 140737488355328 := by omega
      have hnS1 : (pick2 (bitI to) i).length + 1 ≤ maxLen := by unfold maxLen; omega
      have hnS2 : ((pick2 (bitI to) i).length + 1) * 8 ≤ 140737488355328 := by omega
      clear hp hmm htt hTM hg0 zg zg_unused hln1 hln2 hln3
      cases p
      · simp only [Bool.false_eq_true, if_false] at kp
        go_wp2
        have hwsP := HTM.out.far.size
        have hdw : d < wr.heap.size := by have := HDG.out; omega
        have hgw : g < wr.heap.size := by have := HDG.out; omega
        have hne : (vP).ownBlock ≠ some d := fun e => by have := (ownsRow_lt HTM.out.oP e).1; have := HDG.out; omega
        have zg : wr.cell? ⟨g, i, none⟩ = some (.int .i64 (11 + i)) := hzg.out wr ((HTM.out.far.block g HDG.out.2 (by have := HDG.out.1; rintro e; cases e; omega)).trans (HRG.out.trans HG0.out.symm))
        have zX : wr.cell? ⟨d, 0, none⟩ = some (vP) := by rw [cell_of_row wr d 0 _ 43 (0, 0) HTM.out.box]; rfl
        have zX' : wr.drew.cell? ⟨d, 0, none⟩ = some (vP) := zX
        have zg' : wr.drew.cell? ⟨g, i, none⟩ = some (.int .i64 (11 + i)) := zg
        go_region_law ((refine step_append_lies _ (by rfl) _ _ _ (by rfl) wd.heap.size 3 i0 _ 1 8 und22 hinf hz0 hz1 hz2 rfl (by omega) (vP) (pick2 (fun k => !bitI plus k) i).length (lits (pick2 (fun k => !bitI plus k) i)) (by rfl) ((HTM.out.oP.alloc _).drew) ⟨wr.heap.size, 0, none⟩ 1 1 [.int .i64 (11 + i)] (by rfl) (by rfl) (World.news_of_block (cs := #[.int .i64 (11 + i)]) (t := 3) (fr := (0, 0)) (heap_alloc_new wr _)) (by simp [Value.oneCell']) (by omega) hnP1 hnP2 (by simp; omega) (wr.heap.size + 1) (by simp) ?_; intro ggP capP w1P hownP hgrowP hatP hltP; have rowd1 : w1P.heap[d]? = some (.cells #[vP, vM] 43 (0, 0)) := (hgrowP.block d (by simp; omega) (fun e => hne e.symm)).trans ((Below.heap_alloc wr _ d hdw).trans HTM.out.box); have xc : w1P.cell? ⟨d, 0, none⟩ = some (vP) := (by rw [cell_of_row w1P d 0 _ 43 (0, 0) rowd1]; rfl); have xf : w1P.frozen? ⟨d, 0, none⟩ = false := frozen_of_row w1P d 0 _ 43 rowd1))
        all_goals
          have TMn := HTM.out.putP (w' := (wr.alloc (.cells #[Value.int .i64 (11 + i)] 3)).drew) (((Below.refl _ _).alloc (Nat.le_refl _) _).drew) hownP hgrowP (by rcases hatP with e | e; exact .inl e; exact .inr (by rw [e]; simp))
          obtain ⟨W2, hWn⟩ : ∃ W, W = w1P.setCell ⟨d, 0, none⟩ (.slice (some ⟨ggP, 0, none⟩) ((pick2 (fun k => !bitI plus k) i).length + 1) capP) := ⟨_, rfl⟩
          rw [← hWn] at TMn
          rw [← hWn]
          have HT2 := Lib.hid TMn
          clear TMn hWn rowd1 xc xf hgrowP hownP hatP hltP zg zg' zX zX' hne hdw hgw
          cases mm
          · simp only [Bool.false_eq_true, if_false] at km
            go_wp2
            have hwsM := HT2.out.far.size
            have hdw : d < W2.heap.size := by have := HDG.out; omega
            have hgw : g < W2.heap.size := by have := HDG.out; omega
            have hne : (vM).ownBlock ≠ some d := fun e => by have := (ownsRow_lt HT2.out.oM e).1; have := HDG.out; omega
            have zg : W2.cell? ⟨g, i, none⟩ = some (.int .i64 (11 + i)) := hzg.out W2 ((HT2.out.far.block g HDG.out.2 (by have := HDG.out.1; rintro e; cases e; omega)).trans (HRG.out.trans HG0.out.symm))
            have zX : W2.cell? ⟨d, 1, none⟩ = some (vM) := by rw [cell_of_row W2 d 1 _ 43 (0, 0) HT2.out.box]; rfl
            have zX' : W2.drew.cell? ⟨d, 1, none⟩ = some (vM) := zX
            have zg' : W2.drew.cell? ⟨g, i, none⟩ = some (.int .i64 (11 + i)) := zg
            go_region_law ((refine step_append_lies _ (by rfl) _ _ _ (by rfl) wd.heap.size 3 i0 _ 1 8 und22 hinf hz0 hz1 hz2 rfl (by omega) (vM) (pick2 (fun k => !bitI minus k) i).length (lits (pick2 (fun k => !bitI minus k) i)) (by rfl) ((HT2.out.oM.alloc _).drew) ⟨W2.heap.size, 0, none⟩ 1 1 [.int .i64 (11 + i)] (by rfl) (by rfl) (World.news_of_block (cs := #[.int .i64 (11 + i)]) (t := 3) (fr := (0, 0)) (heap_alloc_new W2 _)) (by simp [Value.oneCell']) (by omega) hnM1 hnM2 (by simp; omega) (W2.heap.size + 1) (by simp) ?_; intro ggM capM w1M hownM hgrowM hatM hltM; have rowd1 : w1M.heap[d]? = some (.cells #[(.slice (some ⟨ggP, 0, none⟩) ((pick2 (fun k => !bitI plus k) i).length + 1) capP), vM] 43 (0, 0)) := (hgrowM.block d (by simp; omega) (fun e => hne e.symm)).trans ((Below.heap_alloc W2 _ d hdw).trans HT2.out.box); have xc : w1M.cell? ⟨d, 1, none⟩ = some (vM) := (by rw [cell_of_row w1M d 1 _ 43 (0, 0) rowd1]; rfl); have xf : w1M.frozen? ⟨d, 1, none⟩ = false := frozen_of_row w1M d 1 _ 43 rowd1))
            all_goals
              have TMn := HT2.out.putM (w' := (W2.alloc (.cells #[Value.int .i64 (11 + i)] 3)).drew) (((Below.refl _ _).alloc (Nat.le_refl _) _).drew) hownM hgrowM (by rcases hatM with e | e; exact .inl e; exact .inr (by rw [e]; simp))
              obtain ⟨W3, hWn⟩ : ∃ W, W = w1M.setCell ⟨d, 1, none⟩ (.slice (some ⟨ggM, 0, none⟩) ((pick2 (fun k => !bitI minus k) i).length + 1) capM) := ⟨_, rfl⟩
              rw [← hWn] at TMn
              rw [← hWn]
              have HT3 := Lib.hid TMn
              clear TMn hWn rowd1 xc xf hgrowM hownM hatM hltM zg zg' zX zX' hne hdw hgw
              cases tt
              · simp only [Bool.false_eq_true, if_false] at kt
                go_wp2
                go_roundw
                case rel => exact ⟨i + 1, _, _, by push_cast; rfl, by omega, by (show Value.bool _ = Value.bool (mayT (bitI plus) (bitI to) i && (!bitI to i || bitI plus i)); simp [HP.out, HTT.out]), by (rw [pick_step (fun k => !bitI plus k) i true (by show (!bitI plus i) = _; rw [HP.out]; rfl), pick_step (fun k => !bitI minus k) i true (by show (!bitI minus i) = _; rw [HM.out]; rfl), pick_step (bitI to) i false HTT.out]; simpa using HT3.out)⟩
                case measure => simp [intOf]; omega
              · simp only [if_true] at kt
                have hwsS := HT3.out.far.size
                have hgw : g < W3.heap.size := by have := HDG.out; omega
                have zg : W3.cell? ⟨g, i, none⟩ = some (.int .i64 (11 + i)) := hzg.out W3 ((HT3.out.far.block g HDG.out.2 (by have := HDG.out.1; rintro e; cases e; omega)).trans (HRG.out.trans HG0.out.symm))
                obtain ⟨q, hq⟩ : ∃ q, mayT (bitI plus) (bitI to) i = q := ⟨_, rfl⟩
                rw [hq]
                have HQ := Lib.hid hq
                clear hq
                cases q
                all_goals
                  go_wp2_with ((with_reducible show wpList _ _ _ (⟨some 104, _, _, _, _, _⟩ :: _) _ _); go_must (refine wpList_append_lies _ rfl _ _ _ rfl wd.heap.size 3 i0 _ 1 8 und22 hinf hz0 hz1 hz2 rfl (by omega) u17 (pick2 (bitI to) i).length (lits (pick2 (bitI to) i)) rfl (HT3.out.oS.alloc _) ⟨W3.heap.size, 0, none⟩ 1 1 [.int .i64 (11 + i)] rfl rfl (World.news_of_block (cs := #[.int .i64 (11 + i)]) (t := 3) (fr := (0, 0)) (heap_alloc_new W3 _)) (by simp [Value.oneCell']) (by omega) hnS1 hnS2 (by simp; omega) (W3.heap.size + 1) (by simp) ?_; intro ggS capS w1S hownS hgrowS hatS hltS; simp only [Act.put, List.setIfInBounds_toArray, List.set_cons_zero, List.set_cons_succ]))
                  have TMs := Lib.hid (HT3.out.putS (w' := W3.alloc (.cells #[Value.int .i64 (11 + i)] 3)) ((Below.refl _ _).alloc (Nat.le_refl _) _) hownS hgrowS (by rcases hatS with e | e; exact .inl e; exact .inr (by rw [e]; simp)))
                  go_roundw
                  case rel => exact ⟨i + 1, _, _, by push_cast; rfl, by omega, by (show Value.bool _ = Value.bool (mayT (bitI plus) (bitI to) i && (!bitI to i || bitI plus i)); rw [HP.out, HTT.out, HQ.out]; rfl), by (rw [pick_step (fun k => !bitI plus k) i true (by show (!bitI plus i) = _; rw [HP.out]; rfl), pick_step (fun k => !bitI minus k) i true (by show (!bitI minus i) = _; rw [HM.out]; rfl), pick_step (bitI to) i true HTT.out]; simpa using TMs.out)⟩
                  case measure => simp [intOf]; omega
          · simp only [if_true] at km
            cases tt
            · simp only [Bool.false_eq_true, if_false] at kt
              go_wp2
              go_roundw
              case rel => exact ⟨i + 1, _, _, by push_cast; rfl, by omega, by (show Value.bool _ = Value.bool (mayT (bitI plus) (bitI to) i && (!bitI to i || bitI plus i)); simp [HP.out, HTT.out]), by (rw [pick_step (fun k => !bitI plus k) i true (by show (!bitI plus i) = _; rw [HP.out]; rfl), pick_step (fun k => !bitI minus k) i false (by show (!bitI minus i) = _; rw [HM.out]; rfl), pick_step (bitI to) i false HTT.out]; simpa using HT2.out)⟩
              case measure => simp [intOf]; omega
            · simp only [if_true] at kt
              have hwsS := HT2.out.far.size
              have hgw : g < W2.heap.size := by have := HDG.out; omega
              have zg : W2.cell? ⟨g, i, none⟩ = some (.int .i64 (11 + i)) := hzg.out W2 ((HT2.out.far.block g HDG.out.2 (by have := HDG.out.1; rintro e; cases e; omega)).trans (HRG.out.trans HG0.out.symm))
              obtain ⟨q, hq⟩ : ∃ q, mayT (bitI plus) (bitI to) i = q := ⟨_, rfl⟩
              rw [hq]
              have HQ := Lib.hid hq
              clear hq
              cases q
              all_goals
                go_wp2_with ((with_reducible show wpList _ _ _ (⟨some 104, _, _, _, _, _⟩ :: _) _ _); go_must (refine wpList_append_lies _ rfl _ _ _ rfl wd.heap.size 3 i0 _ 1 8 und22 hinf hz0 hz1 hz2 rfl (by omega) u17 (pick2 (bitI to) i).length (lits (pick2 (bitI to) i)) rfl (HT2.out.oS.alloc _) ⟨W2.heap.size, 0, none⟩ 1 1 [.int .i64 (11 + i)] rfl rfl (World.news_of_block (cs := #[.int .i64 (11 + i)]) (t := 3) (fr := (0, 0)) (heap_alloc_new W2 _)) (by simp [Value.oneCell']) (by omega) hnS1 hnS2 (by simp; omega) (W2.heap.size + 1) (by simp) ?_; intro ggS capS w1S hownS hgrowS hatS hltS; simp only [Act.put, List.setIfInBounds_toArray, List.set_cons_zero, List.set_cons_succ]))
                have TMs := Lib.hid (HT2.out.putS (w' := W2.alloc (.cells #[Value.int .i64 (11 + i)] 3)) ((Below.refl _ _).alloc (Nat.le_refl _) _) hownS hgrowS (by rcases hatS with e | e; exact .inl e; exact .inr (by rw [e]; simp)))
                go_roundw
                case rel => exact ⟨i + 1, _, _, by push_cast; rfl, by omega, by (show Value.bool _ = Value.bool (mayT (bitI plus) (bitI to) i && (!bitI to i || bitI plus i)); rw [HP.out, HTT.out, HQ.out]; rfl), by (rw [pick_step (fun k => !bitI plus k) i true (by show (!bitI plus i) = _; rw [HP.out]; rfl), pick_step (fun k => !bitI minus k) i false (by show (!bitI minus i) = _; rw [HM.out]; rfl), pick_step (bitI to) i true HTT.out]; simpa using TMs.out)⟩
                case measure => simp [intOf]; omega
      · simp only [if_true] at kp
        cases mm
        · simp only [Bool.false_eq_true, if_false] at km
          go_wp2
          have hwsM := HTM.out.far.size
          have hdw : d < wr.heap.size := by have := HDG.out; omega
          have hgw : g < wr.heap.size := by have := HDG.out; omega
          have hne : (vM).ownBlock ≠ some d := fun e => by have := (ownsRow_lt HTM.out.oM e).1; have := HDG.out; omega
          have zg : wr.cell? ⟨g, i, none⟩ = some (.int .i64 (11 + i)) := hzg.out wr ((HTM.out.far.block g HDG.out.2 (by have := HDG.out.1; rintro e; cases e; omega)).trans (HRG.out.trans HG0.out.symm))
          have zX : wr.cell? ⟨d, 1, none⟩ = some (vM) := by rw [cell_of_row wr d 1 _ 43 (0, 0) HTM.out.box]; rfl
          have zX' : wr.drew.cell? ⟨d, 1, none⟩ = some (vM) := zX
          have zg' : wr.drew.cell? ⟨g, i, none⟩ = some (.int .i64 (11 + i)) := zg
          go_region_law ((refine step_append_lies _ (by rfl) _ _ _ (by rfl) wd.heap.size 3 i0 _ 1 8 und22 hinf hz0 hz1 hz2 rfl (by omega) (vM) (pick2 (fun k => !bitI minus k) i).length (lits (pick2 (fun k => !bitI minus k) i)) (by rfl) ((HTM.out.oM.alloc _).drew) ⟨wr.heap.size, 0, none⟩ 1 1 [.int .i64 (11 + i)] (by rfl) (by rfl) (World.news_of_block (cs := #[.int .i64 (11 + i)]) (t := 3) (fr := (0, 0)) (heap_alloc_new wr _)) (by simp [Value.oneCell']) (by omega) hnM1 hnM2 (by simp; omega) (wr.heap.size + 1) (by simp) ?_; intro ggM capM w1M hownM hgrowM hatM hltM; have rowd1 : w1M.heap[d]? = some (.cells #[vP, vM] 43 (0, 0)) := (hgrowM.block d (by simp; omega) (fun e => hne e.symm)).trans ((Below.heap_alloc wr _ d hdw).trans HTM.out.box); have xc : w1M.cell? ⟨d, 1, none⟩ = some (vM) := (by rw [cell_of_row w1M d 1 _ 43 (0, 0) rowd1]; rfl); have xf : w1M.frozen? ⟨d, 1, none⟩ = false := frozen_of_row w1M d 1 _ 43 rowd1))
          all_goals
            have TMn := HTM.out.putM (w' := (wr.alloc (.cells #[Value.int .i64 (11 + i)] 3)).drew) (((Below.refl _ _).alloc (Nat.le_refl _) _).drew) hownM hgrowM (by rcases hatM with e | e; exact .inl e; exact .inr (by rw [e]; simp))
            obtain ⟨W3, hWn⟩ : ∃ W, W = w1M.setCell ⟨d, 1, none⟩ (.slice (some ⟨ggM, 0, none⟩) ((pick2 (fun k => !bitI minus k) i).length + 1) capM) := ⟨_, rfl⟩
            rw [← hWn] at TMn
            rw [← hWn]
            have HT3 := Lib.hid TMn
            clear TMn hWn rowd1 xc xf hgrowM hownM hatM hltM zg zg' zX zX' hne hdw hgw
            cases tt
            · simp only [Bool.false_eq_true, if_false] at kt
              go_wp2
              go_roundw
              case rel => exact ⟨i + 1, _, _, by push_cast; rfl, by omega, by (show Value.bool _ = Value.bool (mayT (bitI plus) (bitI to) i && (!bitI to i || bitI plus i)); simp [HP.out, HTT.out]), by (rw [pick_step (fun k => !bitI plus k) i false (by show (!bitI plus i) = _; rw [HP.out]; rfl), pick_step (fun k => !bitI minus k) i true (by show (!bitI minus i) = _; rw [HM.out]; rfl), pick_step (bitI to) i false HTT.out]; simpa using HT3.out)⟩
              case measure => simp [intOf]; omega
            · simp only [if_true] at kt
              have hwsS := HT3.out.far.size
              have hgw : g < W3.heap.size := by have := HDG.out; omega
              have zg : W3.cell? ⟨g, i, none⟩ = some (.int .i64 (11 + i)) := hzg.out W3 ((HT3.out.far.block g HDG.out.2 (by have := HDG.out.1; rintro e; cases e; omega)).trans (HRG.out.trans HG0.out.symm))
              obtain ⟨q, hq⟩ : ∃ q, mayT (bitI plus) (bitI to) i = q := ⟨_, rfl⟩
              rw [hq]
              have HQ := Lib.hid hq
              clear hq
              cases q
              all_goals
                go_wp2_with ((with_reducible show wpList _ _ _ (⟨some 104, _, _, _, _, _⟩ :: _) _ _); go_must (refine wpList_append_lies _ rfl _ _ _ rfl wd.heap.size 3 i0 _ 1 8 und22 hinf hz0 hz1 hz2 rfl (by omega) u17 (pick2 (bitI to) i).length (lits (pick2 (bitI to) i)) rfl (HT3.out.oS.alloc _) ⟨W3.heap.size, 0, none⟩ 1 1 [.int .i64 (11 + i)] rfl rfl (World.news_of_block (cs := #[.int .i64 (11 + i)]) (t := 3) (fr := (0, 0)) (heap_alloc_new W3 _)) (by simp [Value.oneCell']) (by omega) hnS1 hnS2 (by simp; omega) (W3.heap.size + 1) (by simp) ?_; intro ggS capS w1S hownS hgrowS hatS hltS; simp only [Act.put, List.setIfInBounds_toArray, List.set_cons_zero, List.set_cons_succ]))
                have TMs := Lib.hid (HT3.out.putS (w' := W3.alloc (.cells #[Value.int .i64 (11 + i)] 3)) ((Below.refl _ _).alloc (Nat.le_refl _) _) hownS hgrowS (by rcases hatS with e | e; exact .inl e; exact .inr (by rw [e]; simp)))
                go_roundw
                case rel => exact ⟨i + 1, _, _, by push_cast; rfl, by omega, by (show Value.bool _ = Value.bool (mayT (bitI plus) (bitI to) i && (!bitI to i || bitI plus i)); rw [HP.out, HTT.out, HQ.out]; rfl), by (rw [pick_step (fun k => !bitI plus k) i false (by show (!bitI plus i) = _; rw [HP.out]; rfl), pick_step (fun k => !bitI minus k) i true (by show (!bitI minus i) = _; rw [HM.out]; rfl), pick_step (bitI to) i true HTT.out]; simpa using TMs.out)⟩
                case measure => simp [intOf]; omega
        · simp only [if_true] at km
          cases tt
          · simp only [Bool.false_eq_true, if_false] at kt
            go_wp2
            go_roundw
            case rel => exact ⟨i + 1, _, _, by push_cast; rfl, by omega, by (show Value.bool _ = Value.bool (mayT (bitI plus) (bitI to) i && (!bitI to i || bitI plus i)); simp [HP.out, HTT.out]), by (rw [pick_step (fun k => !bitI plus k) i false (by show (!bitI plus i) = _; rw [HP.out]; rfl), pick_step (fun k => !bitI minus k) i false (by show (!bitI minus i) = _; rw [HM.out]; rfl), pick_step (bitI to) i false HTT.out]; simpa using HTM.out)⟩
            case measure => simp [intOf]; omega
          · simp only [if_true] at kt
            have hwsS := HTM.out.far.size
            have hgw : g < wr.heap.size := by have := HDG.out; omega
            have zg : wr.cell? ⟨g, i, none⟩ = some (.int .i64 (11 + i)) := hzg.out wr ((HTM.out.far.block g HDG.out.2 (by have := HDG.out.1; rintro e; cases e; omega)).trans (HRG.out.trans HG0.out.symm))
            obtain ⟨q, hq⟩ : ∃ q, mayT (bitI plus) (bitI to) i = q := ⟨_, rfl⟩
            rw [hq]
            have HQ := Lib.hid hq
            clear hq
            cases q
            all_goals
              go_wp2_with ((with_reducible show wpList _ _ _ (⟨some 104, _, _, _, _, _⟩ :: _) _ _); go_must (refine wpList_append_lies _ rfl _ _ _ rfl wd.heap.size 3 i0 _ 1 8 und22 hinf hz0 hz1 hz2 rfl (by omega) u17 (pick2 (bitI to) i).length (lits (pick2 (bitI to) i)) rfl (HTM.out.oS.alloc _) ⟨wr.heap.size, 0, none⟩ 1 1 [.int .i64 (11 + i)] rfl rfl (World.news_of_block (cs := #[.int .i64 (11 + i)]) (t := 3) (fr := (0, 0)) (heap_alloc_new wr _)) (by simp [Value.oneCell']) (by omega) hnS1 hnS2 (by simp; omega) (wr.heap.size + 1) (by simp) ?_; intro ggS capS w1S hownS hgrowS hatS hltS; simp only [Act.put, List.setIfInBounds_toArray, List.set_cons_zero, List.set_cons_succ]))
              have TMs := Lib.hid (HTM.out.putS (w' := wr.alloc (.cells #[Value.int .i64 (11 + i)] 3)) ((Below.refl _ _).alloc (Nat.le_refl _) _) hownS hgrowS (by rcases hatS with e | e; exact .inl e; exact .inr (by rw [e]; simp)))
              go_roundw
              case rel => exact ⟨i + 1, _, _, by push_cast; rfl, by omega, by (show Value.bool _ = Value.bool (mayT (bitI plus) (bitI to) i && (!bitI to i || bitI plus i)); rw [HP.out, HTT.out, HQ.out]; rfl), by (rw [pick_step (fun k => !bitI plus k) i false (by show (!bitI plus i) = _; rw [HP.out]; rfl), pick_step (fun k => !bitI minus k) i false (by show (!bitI minus i) = _; rw [HM.out]; rfl), pick_step (bitI to) i true HTT.out]; simpa using TMs.out)⟩
              case measure => simp [intOf]; omega
    · obtain rfl : i = 2 := by omega
      rw [pick2_two, pick2_two, pick2_two] at hTM
      rw [mayT_two]
      obtain ⟨p0, hp0⟩ : ∃ p, bitI plus 0 = p := ⟨_, rfl⟩
      obtain ⟨p1, hp1⟩ : ∃ p, bitI plus 1 = p := ⟨_, rfl⟩
      obtain ⟨m0, hm0⟩ : ∃ p, bitI minus 0 = p := ⟨_, rfl⟩
      obtain ⟨m1, hm1⟩ : ∃ p, bitI minus 1 = p := ⟨_, rfl⟩
      obtain ⟨t0, ht0⟩ : ∃ p, bitI to 0 = p := ⟨_, rfl⟩
      obtain ⟨t1, ht1⟩ : ∃ p, bitI to 1 = p := ⟨_, rfl⟩
      rw [hp0, hp1, ht0, ht1]
      rw [hp0, hp1, hm0, hm1, ht0, ht1] at hTM
      have hTM2 : TagsMem wd wr d vP vM u17 (lst (!p0) (!p1)) (lst (!m0) (!m1)) (lst t0 t1) := hTM
      obtain ⟨jP, jM, jS⟩ := hTM2.ints
      obtain ⟨aS, nS, cS, hvS⟩ := jS.shape3
      subst hvS
      have hT := hTM2.tab HT.out HRD.out
      have hBr : Below w.heap.size w wr := HB.out.trans ((Below.refl w.heap.size wd).grown hTM2.far HB.out.size (fun k hk => by cases hk; exact HBd.out))
      obtain ⟨D, hD⟩ : ∃ D, tDD p0 p1 m0 m1 = D := ⟨_, rfl⟩
      obtain ⟨lS, hlS⟩ : ∃ l, lst t0 t1 = l := ⟨_, rfl⟩
      obtain ⟨Q, hQ⟩ : ∃ Q, ((!t0 || p0) && (!t1 || p1)) = Q := ⟨_, rfl⟩
      obtain ⟨R, hR⟩ : ∃ R, ((!t0 || m0) && (!t1 || m1)) = R := ⟨_, rfl⟩
      have K1 : Hid (Calls Tryd.prog 23 #[.pointer (some ⟨T, 0, none⟩), .string b11, .agg #[vP, vM]] wr fun e w' => e = .returned (.int .i64 0) ∧ TabAt w' w.heap.size T M bl4 [tP3, D] ∧ Bel w.heap.size wr w') := by
        have := drop_ok w.heap.size T M bl4 [tP3, tC] b11 vP vM _ _ wr tC hT (fine_fineB (by kernel_rfl)) (by decide) (by kernel_rfl) rfl jP jM (by have := tlen (!p0) (!p1); omega) (by have := tlen (!m0) (!m1); omega) (by rw [tset, tset]; rfl)
        rw [tupd tC (lessP tC (lst (!p0) (!p1)) (lst (!m0) (!m1))) rfl rfl] at this
        rw [← hD]
        exact this
      have HQ : Hid (mayChange D lS [] = Q) := by show _ = _; rw [← hD, ← hlS, ← hQ]; exact tmay p0 p1 m0 m1 t0 t1
      have HBK2 : Hid (mayChange (relP D lS []) [] [] = R) := by show _ = _; rw [← hD, ← hlS, ← hR]; exact tback p0 p1 m0 m1 t0 t1
      have HBK : Hid (backT (bitI minus) (bitI to) 2 = R) := by show _ = _; rw [backT_two, hm0, hm1, ht0, ht1, hR]
      have zP : wr.cell? ⟨d, 0, none⟩ = some vP := by rw [cell_of_row wr d 0 _ 43 (0, 0) hTM2.box]; rfl
      have zM : wr.cell? ⟨d, 1, none⟩ = some vM := by rw [cell_of_row wr d 1 _ 43 (0, 0) hTM2.box]; rfl
      have JS : Hid (IntsAt wr (.slice aS nS cS) lS) := by show IntsAt wr _ lS; rw [← hlS]; exact jS
      have HBR := Lib.hid hBr
      have HD1 : Hid (D.id = b11 ∧ D.par = oneB ∧ D.exited = false) := by rw [← hD]; exact ⟨rfl, rfl, rfl⟩
      have HD2 : Hid (Fine D) := by rw [← hD]; exact tfine p0 p1 m0 m1
      have HLS : Hid (lS.length ≤ 100) := by rw [← hlS]; exact tlen t0 t1
      have HSS : Hid (setL lS = true) := by rw [← hlS]; exact tset t0 t1
      rw [hQ]
      clear hTM hTM2 jP jM jS hT hBr hp0 hp1 hm0 hm1 ht0 ht1 hQ hR hD hlS HTM
      obtain ⟨G0⟩ : Nonempty Nat := ⟨0⟩
      cases Q
      · have K2 : Hid (∀ w1 u, TabAt w1 w.heap.size T M bl4 [tP3, D] → IntsAt w1 u lS → Calls Tryd.prog 22 #[.pointer (some ⟨T, 0, none⟩), .string b11, .agg #[u, .slice none 0 0]] w1 fun e w' => e = .returned (.int .i64 76) ∧ TabAt w' w.heap.size T M bl4 [tP3, D] ∧ Bel w.heap.size w1 w') := fun w1 u h hu =>
          change_cap w.heap.size T M bl4 [tP3, D] b11 u (.slice none 0 0) lS [] w1 D h (tfines HD2.out) (by decide) (tget HD1.out.1) HD1.out.2.2 hu (IntsAt.nil _) (by have := HLS.out; omega) (by decide) (by rw [HSS.out]; rfl) HQ.out
        go_wp2_with (first
          | (go_at_call 23; refine K1.out.mono ?_; rintro e w5 ⟨rfl, t5, b5⟩; have T5 := Lib.hid t5; have B5 := Lib.hid (HBR.out.trans b5.toBelow); have J5 := Lib.hid (JS.out.keep b5.still.keep3); clear t5 b5)
          | (go_at_call 22; refine (K2.out _ _ T5.out J5.out).mono ?_; rintro e w6 ⟨rfl, t6, b6⟩; have B6 := Lib.hid (B5.out.trans b6.toBelow))
          | (go_at_call 15; refine (awake_any _).mono ?_; rintro e w7 ⟨rfl, b7⟩))
        go_ret
        exact ⟨rfl, B6.out.trans (b7.mono B6.out.size)⟩
      · have K2 : Hid (∀ w1 u, TabAt w1 w.heap.size T M bl4 [tP3, D] → IntsAt w1 u lS → Calls Tryd.prog 22 #[.pointer (some ⟨T, 0, none⟩), .string b11, .agg #[u, .slice none 0 0]] w1 fun e w' => e = .returned (.int .i64 0) ∧ TabAt w' w.heap.size T M bl4 [tP3, relP D lS []] ∧ Bel w.heap.size w1 w') := fun w1 u h hu => by
          have := change_ok w.heap.size T M bl4 [tP3, D] b11 u (.slice none 0 0) lS [] w1 D h (tfines HD2.out) (by decide) (tget HD1.out.1) HD1.out.2.2 hu (IntsAt.nil _) (by have := HLS.out; omega) (by decide) (by rw [HSS.out]; rfl) HQ.out
          rw [tupd D (relP D lS []) HD1.out.1 HD1.out.1, tmove (relP D lS []) lS HD1.out.2.1] at this
          exact this
        have HR1 : Hid (Fine (relP D lS [])) := tfineR HD2.out (by have := HLS.out; omega)
        have K3 : Hid (∀ w1, TabAt w1 w.heap.size T M bl4 [tP3, relP D lS []] → Calls Tryd.prog 22 #[.pointer (some ⟨T, 0, none⟩), .string b11, .agg #[.slice none 0 0, .slice none 0 0]] w1 fun e w' => e = .returned (.int .i64 (if R then 0 else 76)) ∧ Bel w.heap.size w1 w') := fun w1 h => by
          cases R
          · exact (change_cap w.heap.size T M bl4 [tP3, relP D lS []] b11 (.slice none 0 0) (.slice none 0 0) [] [] w1 (relP D lS []) h (tfines HR1.out) (by decide) (tget HD1.out.1) HD1.out.2.2 (IntsAt.nil _) (IntsAt.nil _) (by decide) (by decide) (by kernel_rfl) HBK2.out).mono (by rintro e w' ⟨rfl, _, hb⟩; exact ⟨rfl, hb⟩)
          · exact (change_ok w.heap.size T M bl4 [tP3, relP D lS []] b11 (.slice none 0 0) (.slice none 0 0) [] [] w1 (relP D lS []) h (tfines HR1.out) (by decide) (tget HD1.out.1) HD1.out.2.2 (IntsAt.nil _) (IntsAt.nil _) (by decide) (by decide) (by kernel_rfl) HBK2.out).mono (by rintro e w' ⟨rfl, _, hb⟩; exact ⟨rfl, hb⟩)
        go_wp2_with (first
          | (go_at_call 23; refine K1.out.mono ?_; rintro e w5 ⟨rfl, t5, b5⟩; have T5 := Lib.hid t5; have B5 := Lib.hid (HBR.out.trans b5.toBelow); have J5 := Lib.hid (JS.out.keep b5.still.keep3); clear t5 b5)
          | (go_at_call 22; refine (K2.out _ _ T5.out J5.out).mono ?_; rintro e w6 ⟨rfl, t6, b6⟩; have B6 := Lib.hid (B5.out.trans b6.toBelow); have T6 := Lib.hid t6; clear t6 b6))
        go_loopw [21, 22] (fun vb vi wr => ∃ i : Nat, vi = .int .i64 i ∧ i ≤ 2 ∧ vb = .bool (backT (bitI minus) (bitI to) i) ∧ wr = w6) (fun _ vi _ => 2 - (intOf vi).toNat)
        case atStart => exact ⟨0, rfl, by omega, rfl, rfl⟩
        case round =>
          obtain ⟨i, rfl, hi2, rfl, rfl⟩ := hrel
          by_cases hi : i < 2
          · have km := bitI_walk minus i
            have kt := bitI_walk to i
            have hst : backT (bitI minus) (bitI to) (i + 1) = (backT (bitI minus) (bitI to) i && (!bitI to i || bitI minus i)) := rfl
            have HST := Lib.hid hst
            clear hst
            generalize backT (bitI minus) (bitI to) i = q at *
            generalize bitI minus i = mm at *
            generalize bitI to i = tt at *
            cases q <;> cases mm <;> cases tt
            all_goals
              simp only [Bool.false_eq_true, if_false, if_true] at km kt
              go_wp2
              go_roundw
              case rel => exact ⟨i + 1, by push_cast; rfl, by omega, by rw [HST.out]; rfl, trivial⟩
              case measure => simp [intOf]; omega
          · obtain rfl : i = 2 := by omega
            rw [HBK.out]
            have K3' := K3.out _ T6.out
            have K4 := Lib.hid K3'
            clear K3'
            cases R
            all_goals
              go_wp2_with (first
                | (go_at_call 22; refine K4.out.mono ?_; rintro e w8 ⟨rfl, b8⟩; have B8 := Lib.hid (B6.out.trans b8.toBelow))
                | (go_at_call 15; refine (awake_any _).mono ?_; rintro e w9 ⟨rfl, b9⟩))
              go_ret
              exact ⟨rfl, B8.out.trans (b9.mono B8.out.size)⟩
end Go.Proofs.YtmphnoabkmoafaaDoor
