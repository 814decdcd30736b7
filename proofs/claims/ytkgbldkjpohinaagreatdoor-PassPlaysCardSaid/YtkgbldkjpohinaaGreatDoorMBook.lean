/- The book of users: New, Add, Text, of anything. The book of users: its text is its users' lines. -/
import Derived.Test.YtkgbldkjpohinaaGreatDoorBookAll
import Derived.Test.YtkgbldkjpohinaaGreatDoorRefAdd
import Derived.Test.YtkgbldkjpohinaaGreatDoorRefText
import Derived.Test.YtkgbldkjpohinaaGreatDoorText
import Derived.Test.YtkgbldkjpohinaaGreatDoorLetters
import Derived.Test.YtkgbldkjpohinaaGreatDoorNumber
namespace Go.Proofs.YtkgbldkjpohinaaGreatDoor
open Go.RowKit Go.Maps Go.Sort
open Go.WideMaps (keyOf_string_mk)
set_option linter.unusedVariables false
set_option maxRecDepth 100000 in
set_option maxHeartbeats 1000000 in
theorem add_good (b mu mf nu : Nat) (Du : DataW Unit) (tries wait : Int) (name salt text : ByteArray) (steps id : Int) (w : World) (hB : BookAt w b tries wait mu mf) (hown : w.ownsMap Tryz.prog 9 readU mu nu Du) (hnu : nu < 1000000)
    (hm : mayB name salt steps id = true) (ht : text.size ≤ 64) :
    Calls Tryz.prog 7 #[.pointer (some ⟨b, 0, none⟩), .string name, .string salt, .string text, .int .i64 steps, .int .i64 id] w fun e w' => e = .returned (.int .i64 (addCode Du name)) ∧ w'.ownsMap Tryz.prog 9 readU mu (nu + 1) (addTo Du name salt text steps id) ∧ w.grownBy w' (some mu) := by
  obtain ⟨h1, h2, s1, s2, _⟩ := mayB_true hm
  have hnl : name.size ≤ maxLen := by unfold maxLen; omega
  have HMAY : Hid (∀ w' : World, Calls Tryz.prog 16 #[.string name, .string salt, .int .i64 steps, .int .i64 id] w' fun e w'' => e = .returned (.bool true) ∧ Below w'.heap.size w' w'') := fun w' => by rw [← hm]; exact may_any name salt steps id w' hnl (by unfold maxLen; omega)
  clear hm
  have c2 : w.cell? ⟨b, 2, none⟩ = some (.map (some mu)) := by rw [cell_of_row w b 2 _ 47 (0, 0) hB]; rfl
  have hlt : b < w.heap.size := (Array.getElem?_eq_some_iff.1 hB).1
  have hmu := hown.lt
  have d1 : decide ((text.size : Int) > 64) = false := by simp; omega
  by_cases hhas : Maps.has Du (.string name.data.toList) = true
  · have hc : addCode Du name = 64 := by unfold addCode; rw [if_pos hhas]
    have Hto : Hid (addTo Du name salt text steps id = Du) := by show _ = _; unfold addTo; rw [hc, if_neg (by decide)]
    rw [hc]
    clear hc
    go_enter Tryz.func7, Tryz.ntmps7
    go_wp2_with (first
      | (at_lookup; refine wpList_lookup_user _ rfl _ _ rfl mu nu Du rfl hown name rfl hnl ?_; intro p0 t0 q0 i0' hat0)
      | (go_at_call 16; refine (HMAY.out _).mono ?_; rintro e w1 ⟨rfl, hb1⟩))
    go_ret
    rw [Hto.out]
    have hw1 : Below w.heap.size w w1 := ((Below.refl w.heap.size w).alloc (Nat.le_refl _) _).trans (hb1.mono (by simp))
    exact ⟨rfl, (ownsMap_below hown hw1 hmu).mono (by omega), grown_below hw1 _⟩
  · have hhas' : Maps.has Du (.string name.data.toList) = false := by simpa using hhas
    clear hhas
    by_cases hfull : 9 ≤ Maps.size Du
    · have hc : addCode Du name = 65 := by unfold addCode; rw [if_neg (by simp [hhas']), if_pos hfull]
      have Hto : Hid (addTo Du name salt text steps id = Du) := by show _ = _; unfold addTo; rw [hc, if_neg (by decide)]
      rw [hc]
      clear hc
      go_enter Tryz.func7, Tryz.ntmps7
      go_wp2_with (first
        | (at_lookup; refine wpList_lookup_user _ rfl _ _ rfl mu nu Du rfl hown name rfl hnl ?_; intro p0 t0 q0 i0' hat0)
        | (go_at_call 16; refine (HMAY.out _).mono ?_; rintro e w1 ⟨rfl, hb1⟩; have hw1 : Below w.heap.size w w1 := ((Below.refl w.heap.size w).alloc (Nat.le_refl _) _).trans (hb1.mono (by simp)); have c2' : w1.cell? ⟨b, 2, none⟩ = some (.map (some mu)) := (hw1.cell (p := ⟨b, 2, none⟩) hlt).trans c2; have hown1 := ownsMap_below hown hw1 hmu; have hsz1 := hw1.size)
        | (at_len; refine wpList_len_own _ rfl _ 44 rfl 9 53 und59 _ mu nu Du rfl hown1 ?_))
      go_ret
      rw [Hto.out]
      exact ⟨rfl, hown1.mono (by omega), grown_below hw1 _⟩
    · have hc : addCode Du name = 0 := by unfold addCode; rw [if_neg (by simp [hhas']), if_neg hfull]
      have Hto : Hid (addTo Du name salt text steps id = Du.put (.string name.data.toList) (entD salt steps (hashOf salt text steps) id)) := by show _ = _; unfold addTo; rw [hc, if_pos rfl]
      rw [hc]
      clear hc
      go_enter Tryz.func7, Tryz.ntmps7
      go_wp2_with (first
        | (at_lookup; refine wpList_lookup_user _ rfl _ _ rfl mu nu Du rfl hown name rfl hnl ?_; intro p0 t0 q0 i0' hat0)
        | (go_at_call 16; refine (HMAY.out _).mono ?_; rintro e w1 ⟨rfl, hb1⟩; have hw1 : Below w.heap.size w w1 := ((Below.refl w.heap.size w).alloc (Nat.le_refl _) _).trans (hb1.mono (by simp)); have c2' : w1.cell? ⟨b, 2, none⟩ = some (.map (some mu)) := (hw1.cell (p := ⟨b, 2, none⟩) hlt).trans c2; have hown1 := ownsMap_below hown hw1 hmu; have hsz1 := hw1.size)
        | (at_len; refine wpList_len_own _ rfl _ 44 rfl 9 53 und59 _ mu nu Du rfl hown1 ?_))
      have c3 : w1.drew.cell? ⟨b, 2, none⟩ = some (.map (some mu)) := c2'
      go_region_with (go_at_call 17; refine (stretch_any salt text steps _ (by omega)).mono ?_; rintro e w3 ⟨rfl, hb3⟩; have hw3 : Below w.heap.size w w3 := hw1.trans ((⟨hb3.os, hb3.tape, hb3.output, hb3.size, hb3.block⟩ : Below w1.heap.size w1 w3).mono hsz1); have c4 : w3.cell? ⟨b, 2, none⟩ = some (.map (some mu)) := (hw3.cell (p := ⟨b, 2, none⟩) hlt).trans c2; obtain ⟨w9, hrun, hown9, hg9⟩ := (ownsMap_below hown hw3 hmu).update law9 und59 (by unfold maxLen; omega) (keyOf_string_mk und9 hnl) (show readU (.agg #[.string salt, .int .i64 steps, .string (hashOf salt text steps), .int .i64 id]) = some (entD salt steps (hashOf salt text steps) id, []) from rfl); simp only [hashOf] at hrun)
      all_goals
        go_wp2
        go_ret
        rw [Hto.out]
        exact ⟨rfl, hown9, (grown_below hw3 (some mu)).trans hg9⟩
set_option maxRecDepth 100000 in
set_option maxHeartbeats 1000000 in
theorem add_bad (b mu mf nu : Nat) (Du : DataW Unit) (tries wait : Int) (name salt text : ByteArray) (steps id : Int) (w : World) (hB : BookAt w b tries wait mu mf) (hown : w.ownsMap Tryz.prog 9 readU mu nu Du)
    (hnl : name.size ≤ maxLen) (hsl : salt.size ≤ maxLen) (hbad : mayB name salt steps id = false ∨ 64 < text.size) :
    Calls Tryz.prog 7 #[.pointer (some ⟨b, 0, none⟩), .string name, .string salt, .string text, .int .i64 steps, .int .i64 id] w fun e w' => e = .returned (.int .i64 1) ∧ Below w.heap.size w w' := by
  have c2 : w.cell? ⟨b, 2, none⟩ = some (.map (some mu)) := by rw [cell_of_row w b 2 _ 47 (0, 0) hB]; rfl
  have HMAY := Lib.hid (fun w' => may_any name salt steps id w' hnl hsl)
  obtain ⟨mb, hmb⟩ : ∃ mb, mb = mayB name salt steps id := ⟨_, rfl⟩
  rw [← hmb] at HMAY hbad
  clear hmb
  cases mb with
  | false =>
    clear hbad
    go_enter Tryz.func7, Tryz.ntmps7
    go_wp2_with (first
      | (at_lookup; refine wpList_lookup_user _ rfl _ _ rfl mu nu Du rfl hown name rfl hnl ?_; intro p0 t0 q0 i0' hat0)
      | (go_at_call 16; refine (HMAY.out _).mono ?_; rintro e w1 ⟨rfl, hb1⟩))
    go_ret
    exact ⟨rfl, ((Below.refl w.heap.size w).alloc (Nat.le_refl _) _).trans (hb1.mono (by simp))⟩
  | true =>
    have d1 : decide ((text.size : Int) > 64) = true := decide_eq_true (by rcases hbad with h | h; (cases h); omega)
    clear hbad
    go_enter Tryz.func7, Tryz.ntmps7
    go_wp2_with (first
      | (at_lookup; refine wpList_lookup_user _ rfl _ _ rfl mu nu Du rfl hown name rfl hnl ?_; intro p0 t0 q0 i0' hat0)
      | (go_at_call 16; refine (HMAY.out _).mono ?_; rintro e w1 ⟨rfl, hb1⟩))
    go_ret
    exact ⟨rfl, ((Below.refl w.heap.size w).alloc (Nat.le_refl _) _).trans (hb1.mono (by simp))⟩
theorem own_fr {w w' : World} {mu nu : Nat} {D : DataW Unit} (hu : w.ownsMap Tryz.prog 9 readU mu nu D) (hg : w.grownBy w' (some mu)) : Fr MapM w w' := by
  obtain ⟨es, cl, h, _⟩ := hu
  exact Fr.of_grown hg fun o ho => by rw [h] at ho; cases ho; exact ⟨es, cl, rfl⟩
/-- (*Book).Add, as the plain law says. -/
theorem p_add {w0 w : World} {b mu mf nu nf : Nat} {Du Df : DataW Unit} {most wait : Int} {us : List RU} (h : BookSt w0 w b mu mf most wait nu nf Du Df) (hsu : SimU Du us) (name salt text : ByteArray) (times tag : Int) (hnu : nu < 100000) (hn : name.size ≤ maxLen) (hs : salt.size ≤ maxLen) :
    Calls Tryz.prog 7 #[.pointer (some ⟨b, 0, none⟩), .string name, .string salt, .string text, .int .i64 times, .int .i64 tag] w fun e w' => e = .returned (.int .i64 (addR us name salt text times tag).1) ∧ ∃ Du' : DataW Unit, BookSt w0 w' b mu mf most wait (nu + 1) nf Du' Df ∧ SimU Du' (addR us name salt text times tag).2 ∧ Fr MapM w w' := by
  by_cases hbad : mayB name salt times tag = false ∨ 64 < text.size
  · have hr : addR us name salt text times tag = (1, us) := by unfold addR; rw [if_pos hbad]
    rw [hr]
    refine (add_bad b mu mf nu Du most wait name salt text times tag w h.at_ h.hu hn hs hbad).mono ?_
    rintro e w' ⟨rfl, hb⟩
    have hk := h.keep hb
    exact ⟨rfl, Du, ⟨hk.at_, hk.hu.mono (by omega), hk.hf, hk.below, hk.o1, hk.o2, hk.o3⟩, hsu, Fr.of_below hb⟩
  · have hm : mayB name salt times tag = true := by
      cases hmb : mayB name salt times tag with
      | true => rfl
      | false => exact absurd (.inl hmb) hbad
    refine (add_good b mu mf nu Du most wait name salt text times tag w h.at_ h.hu (by omega) hm (by omega)).mono ?_
    rintro e w' ⟨rfl, k1, k2⟩
    have hr : addR us name salt text times tag = if (findU us name).isSome then (64, us) else if 9 ≤ us.length then (65, us) else (0, putL ⟨name, salt, hashOf salt text times, times, tag⟩ us) := by unfold addR; rw [if_neg hbad]
    have hc : addCode Du name = (addR us name salt text times tag).1 ∧ SimU (addTo Du name salt text times tag) (addR us name salt text times tag).2 := by
      rw [hr]
      unfold addTo addCode
      have hh : Maps.has Du (.string name.data.toList) = (findU us name).isSome := hsu.has name
      rw [hh, hsu.size]
      cases hf : findU us name with
      | some u => exact ⟨rfl, hsu⟩
      | none =>
        by_cases h9 : 9 ≤ us.length
        · simp only [Option.isSome_none, h9, if_true]
          exact ⟨rfl, hsu⟩
        · simp only [Option.isSome_none, h9, if_false]
          exact ⟨rfl, hsu.put ⟨name, salt, hashOf salt text times, times, tag⟩ hf⟩
    rw [hc.1]
    exact ⟨rfl, _, h.grownU k1 k2, hc.2, own_fr h.hu k2⟩
end Go.Proofs.YtkgbldkjpohinaaGreatDoor
namespace Go.Proofs.YtkgbldkjpohinaaGreatDoor
open Go.RowKit Go.Maps Go.Sort
set_option linter.unusedVariables false
theorem sorted_unique {α : Type} {lt : α → α → Prop} (has : ∀ a b, lt a b → ¬ lt b a) : ∀ (l m : List α), l.Perm m → l.Pairwise lt → m.Pairwise lt → l = m
  | [], m, hp, _, _ => (List.nil_perm.1 hp).symm
  | a :: l, [], hp, _, _ => by have := hp.length_eq; simp at this
  | a :: l, b :: m, hp, h1, h2 => by
    obtain ⟨a1, a2⟩ := List.pairwise_cons.1 h1
    obtain ⟨b1, b2⟩ := List.pairwise_cons.1 h2
    have hab : a = b := by
      have ha : a ∈ b :: m := hp.mem_iff.1 (by simp)
      have hb : b ∈ a :: l := hp.mem_iff.2 (by simp)
      rcases List.mem_cons.1 ha with e | ha
      · exact e
      · rcases List.mem_cons.1 hb with e | hb
        · exact e.symm
        · exact absurd (a1 b hb) (has _ _ (b1 a ha))
    subst hab
    rw [sorted_unique has l m ((List.perm_cons a).1 hp) a2 b2]
theorem flat_congr {α β : Type} {f g : α → List β} : ∀ (l : List α), (∀ x ∈ l, f x = g x) → l.flatMap f = l.flatMap g
  | [], _ => rfl
  | a :: r, h => by rw [List.flatMap_cons, List.flatMap_cons, h a (by simp), flat_congr r (fun x hx => h x (by simp [hx]))]
theorem findU_mem {us : List RU} (hn : us.Pairwise fun a b => a.name ≠ b.name) {u : RU} (h : u ∈ us) : findU us u.name = some u := by
  induction us with
  | nil => cases h
  | cons v r ih =>
    obtain ⟨h1, h2⟩ := List.pairwise_cons.1 hn
    unfold findU
    rcases List.mem_cons.1 h with rfl | h
    · rw [List.find?_cons_of_pos (by simp)]
    · rw [List.find?_cons_of_neg (by simp; exact h1 u h)]
      exact ih h2 h
theorem keys_sim {D : DataW Unit} {us : List RU} (h : SimU D us) : keysOf D = us.map fun u => u.name.data.toList := by
  have hs := h.sorted
  obtain ⟨es, rfl, hp⟩ := h.eq
  have hk : (strKeys (DataW.map es)).Perm (us.map fun u => u.name.data.toList) := by
    have := hp.map (fun p : Lit × DataW Unit => strOf p.1)
    rw [List.map_map] at this
    exact this
  refine sorted_unique (lt := fun a b : List UInt8 => a < b) (fun a b h1 h2 => List.lt_irrefl _ (List.lt_trans h1 h2)) _ _ ((List.mergeSort_perm _ _).trans hk) ?_ ?_
  · have h1 : ((strKeys (DataW.map es)).mergeSort (fun x y => decide (x ≤ y))).Pairwise (fun a b => decide (a ≤ b) = true) := List.pairwise_mergeSort (fun a b c h1 h2 => by simp at *; exact List.le_trans h1 h2) (fun a b => by simp; exact List.le_total a b) _
    have h2 : ((strKeys (DataW.map es)).mergeSort (fun x y => decide (x ≤ y))).Pairwise (fun a b => a ≠ b) := by
      refine ((List.mergeSort_perm _ _).trans hk).symm.pairwise ?_ (fun {a b} h => h.symm)
      rw [List.pairwise_map]
      exact hs.imp fun hab e => by rw [e] at hab; exact List.lt_irrefl _ hab
    refine (List.pairwise_and_iff.2 ⟨h1, h2⟩).imp fun {a b} hab => ?_
    rcases Std.lt_trichotomy a b with h | h | h
    · exact h
    · exact absurd h hab.2
    · exact absurd h (by have := of_decide_eq_true hab.1; exact List.not_lt.2 this)
  · rw [List.pairwise_map]
    exact hs
theorem text_sim {D : DataW Unit} {us : List RU} (h : SimU D us) : textOf D = textR us := by
  unfold textOf textR
  rw [keys_sim h]
  unfold textL
  rw [List.flatMap_map]
  congr 2
  refine flat_congr _ fun u hu => ?_
  have := h.at u.name noU
  rw [findU_mem h.names hu] at this
  show lineOf _ (D.atKey (key u.name) noU) = _
  rw [this]
  exact lineOf_ent _ _ _ _ _
theorem keys_ok {D : DataW Unit} {us : List RU} (h : SimU D us) (hok : ∀ u ∈ us, UOk u) : ∀ k ∈ keysOf D, UserOk D k := by
  rw [keys_sim h]
  intro k hk
  obtain ⟨u, hu, rfl⟩ := List.mem_map.1 hk
  obtain ⟨z0, z1, z2, z3, z4, z5, z6⟩ := hok u hu
  refine ⟨by simpa using z0, fun s t ha n he => ?_⟩
  have := h.at u.name noU
  rw [findU_mem h.names hu] at this
  have e2 := this.symm.trans he
  obtain ⟨rfl, rfl, rfl, rfl⟩ := entD_inj e2
  exact ⟨z1, z2, z3, z4, z5, z6⟩
theorem p_text {w0 w : World} {b mu mf nu nf : Nat} {Du Df : DataW Unit} {most wait : Int} {us : List RU} (h : BookSt w0 w b mu mf most wait nu nf Du Df) (hsu : SimU Du us) (hok : ∀ u ∈ us, UOk u) (hl : us.length < 1000) (hv : LibV w0) :
    Calls Tryz.prog 14 #[.pointer (some ⟨b, 0, none⟩)] w fun e w' => e = .returned (.string (textR us)) ∧ Below w.heap.size w w' := by
  have hk : (keysOf Du).length = us.length := by rw [keys_sim hsu, List.length_map]
  have ht := text_sim hsu
  have hts := textR_size us hok
  have htl : (textL Du (keysOf Du)).length = (textR us).size := by rw [← ht]; rfl
  have := text_any b mu mf nu Du most wait w h.at_ h.hu (by rw [hsu.size]; omega) (by omega) (keys_ok hsu hok) (by omega) (hv.below h.below (Nat.le_refl _)).pow
  rwa [ht] at this
end Go.Proofs.YtkgbldkjpohinaaGreatDoor
