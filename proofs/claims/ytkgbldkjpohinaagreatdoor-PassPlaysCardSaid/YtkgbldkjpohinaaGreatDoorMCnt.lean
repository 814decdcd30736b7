/- What the users and the failures of a book are, plainly: lists; how the maps stand for them. (*Book).strangers, told exactly. -/
import Derived.Test.YtkgbldkjpohinaaGreatDoorBookAdd
import Derived.Test.YtkgbldkjpohinaaGreatDoorBookSt
namespace Go.Proofs.YtkgbldkjpohinaaGreatDoor
open Go.RowKit Go.Maps
set_option linter.unusedVariables false
structure RU where
  name : ByteArray
  salt : ByteArray
  hash : ByteArray
  times : Int
  tag : Int
structure RF where
  name : ByteArray
  n : Int
  last : Int
def key (s : ByteArray) : Lit := .string s.data.toList
def entU (u : RU) : Lit × DataW Unit := (key u.name, entD u.salt u.times u.hash u.tag)
def entF (f : RF) : Lit × DataW Unit := (key f.name, failD f.n f.last)
theorem key_inj {a b : ByteArray} (h : key a = key b) : a = b := by
  have h2 : a.data.toList = b.data.toList := by simpa [key] using h
  cases a; cases b; simpa [Array.toList_inj] using h2
theorem key_same (a b : ByteArray) : (key a).sameKey (key b) = decide (a = b) := by
  show (a.data.toList == b.data.toList) = _
  by_cases h : a = b
  · subst h; simp
  · rw [decide_eq_false h, beq_eq_false_iff_ne]
    intro e
    apply h
    cases a; cases b; simpa [Array.toList_inj] using e
def findU (us : List RU) (name : ByteArray) : Option RU := us.find? fun u => decide (u.name = name)
def findF (fs : List RF) (name : ByteArray) : Option RF := fs.find? fun f => decide (f.name = name)
def cnt (fs : List RF) (name : ByteArray) : Int := match findF fs name with | some f => f.n | none => 0
def setL (fs : List RF) (name : ByteArray) (n now : Int) : List RF := fs.filter (fun f => !decide (f.name = name)) ++ (if 0 < n then [⟨name, n, now⟩] else [])
def putL (u : RU) : List RU → List RU
  | [] => [u]
  | v :: r => if v.name.data.toList < u.name.data.toList then v :: putL u r else u :: v :: r
def strangersL (us : List RU) (fs : List RF) : Nat := (fs.filter fun f => (findU us f.name).isNone).length
def tryGo (us : List RU) (fs : List RF) (name text : ByteArray) (now : Int) : (Int × Int) × List RF :=
  match findU us name with
  | some u => if hashOf u.salt text u.times = u.hash then ((u.tag, 0), setL fs name 0 0) else ((0, 79), setL fs name (cnt fs name + 1) now)
  | none => if 0 < cnt fs name ∨ strangersL us fs < 9 then ((0, 79), setL fs name (cnt fs name + 1) now) else ((0, 79), fs)
def tryR (most wait : Int) (us : List RU) (fs : List RF) (name text : ByteArray) (now : Int) : (Int × Int) × List RF :=
  if now < 0 ∨ 64 < text.size then ((0, 1), fs) else
  match findF fs name with
  | none => tryGo us fs name text now
  | some f => if most ≤ f.n then (if now - f.last < wait then ((0, 80), fs) else tryGo us (setL fs name 0 0) name text now) else tryGo us fs name text now
def updU (us : List RU) (name h : ByteArray) : List RU := us.map fun u => if u.name = name then { u with hash := h } else u
def changeR (most wait : Int) (us : List RU) (fs : List RF) (name old text : ByteArray) (now : Int) : Int × List RU × List RF :=
  if 64 < text.size then (1, us, fs) else
  let r := tryR most wait us fs name old now
  match findU us name with
  | some u => if r.1.2 = 0 then (0, updU us name (hashOf u.salt text u.times), r.2) else (r.1.2, us, r.2)
  | none => (r.1.2, us, r.2)
structure SimU (D : DataW Unit) (us : List RU) : Prop where
  eq : ∃ es, D = .map es ∧ es.Perm (us.map entU)
  sorted : us.Pairwise fun a b => a.name.data.toList < b.name.data.toList
structure SimF (D : DataW Unit) (fs : List RF) : Prop where
  eq : ∃ es, D = .map es ∧ es.Perm (fs.map entF)
  nodup : fs.Pairwise fun a b => a.name ≠ b.name
theorem any_perm {α : Type} {l m : List α} (h : l.Perm m) (f : α → Bool) : l.any f = m.any f := by
  rw [Bool.eq_iff_iff, List.any_eq_true, List.any_eq_true]
  exact ⟨fun ⟨x, hx, e⟩ => ⟨x, h.mem_iff.1 hx, e⟩, fun ⟨x, hx, e⟩ => ⟨x, h.mem_iff.2 hx, e⟩⟩
/-- Where at most one fits, the order does not matter. -/
theorem find_perm {α : Type} {l m : List α} (h : l.Perm m) (f : α → Bool) (hm : m.Pairwise fun a b => ¬ (f a = true ∧ f b = true)) : l.find? f = m.find? f := by
  cases hl : l.find? f with
  | none =>
    rw [eq_comm, List.find?_eq_none]
    intro x hx
    exact (List.find?_eq_none.1 hl) x (h.mem_iff.2 hx)
  | some x =>
    have hx := List.find?_some hl
    have hx2 := h.mem_iff.1 (List.mem_of_find?_eq_some hl)
    cases hm2 : m.find? f with
    | none => exact absurd hx ((List.find?_eq_none.1 hm2) x hx2)
    | some y =>
      have hy := List.find?_some hm2
      have hy2 := List.mem_of_find?_eq_some hm2
      congr 1
      by_cases e : x = y
      · exact e
      · exfalso
        obtain ⟨i, hi, rfl⟩ := List.getElem_of_mem hx2
        obtain ⟨j, hj, rfl⟩ := List.getElem_of_mem hy2
        have hij : i ≠ j := fun e2 => e (by subst e2; rfl)
        rcases Nat.lt_or_gt_of_ne hij with hlt | hlt
        · exact (List.pairwise_iff_getElem.1 hm i j hi hj hlt) ⟨hx, hy⟩
        · exact (List.pairwise_iff_getElem.1 hm j i hj hi hlt) ⟨hy, hx⟩
theorem atKey_map (es : List (Lit × DataW Unit)) (k : Lit) (z : DataW Unit) : (DataW.map es).atKey k z = ((es.find? fun p => p.1.sameKey k).map Prod.snd).getD z := by
  unfold DataW.atKey
  simp only
  cases es.find? (fun p => p.1.sameKey k) <;> rfl
section
variable {D Df : DataW Unit} {us : List RU} {fs : List RF}
theorem SimU.names (h : SimU D us) : us.Pairwise fun a b => a.name ≠ b.name := h.sorted.imp fun hab e => by rw [e] at hab; exact List.lt_irrefl _ hab
theorem SimU.has (h : SimU D us) (name : ByteArray) : Maps.has D (key name) = (findU us name).isSome := by
  obtain ⟨es, rfl, hp⟩ := h.eq
  rw [Maps.has_eq, any_perm hp, List.any_map]
  unfold findU
  rw [List.isSome_find?]
  congr 1
  funext u
  exact key_same _ _
theorem SimF.has (h : SimF D fs) (name : ByteArray) : Maps.has D (key name) = (findF fs name).isSome := by
  obtain ⟨es, rfl, hp⟩ := h.eq
  rw [Maps.has_eq, any_perm hp, List.any_map]
  unfold findF
  rw [List.isSome_find?]
  congr 1
  funext u
  exact key_same _ _
theorem SimU.size (h : SimU D us) : Maps.size D = us.length := by
  obtain ⟨es, rfl, hp⟩ := h.eq
  rw [Maps.size_eq, hp.length_eq, List.length_map]
theorem SimF.size (h : SimF D fs) : Maps.size D = fs.length := by
  obtain ⟨es, rfl, hp⟩ := h.eq
  rw [Maps.size_eq, hp.length_eq, List.length_map]
theorem SimU.at (h : SimU D us) (name : ByteArray) (z : DataW Unit) : D.atKey (key name) z = match findU us name with | some u => entD u.salt u.times u.hash u.tag | none => z := by
  have hn := h.names
  obtain ⟨es, rfl, hp⟩ := h.eq
  rw [atKey_map, find_perm hp _ ?_, List.find?_map]
  · have e : ((fun p : Lit × DataW Unit => p.1.sameKey (key name)) ∘ entU) = fun u : RU => decide (u.name = name) := by funext u; exact key_same _ _
    rw [e]
    unfold findU
    cases us.find? fun u => decide (u.name = name) <;> rfl
  · rw [List.pairwise_map]
    exact hn.imp fun hab ⟨h1, h2⟩ => by
      have e1 := (key_same _ _).symm.trans h1
      have e2 := (key_same _ _).symm.trans h2
      simp at e1 e2
      exact hab (e1.trans e2.symm)
theorem SimF.at (h : SimF D fs) (name : ByteArray) (z : DataW Unit) : D.atKey (key name) z = match findF fs name with | some f => failD f.n f.last | none => z := by
  have hn := h.nodup
  obtain ⟨es, rfl, hp⟩ := h.eq
  rw [atKey_map, find_perm hp _ ?_, List.find?_map]
  · have e : ((fun p : Lit × DataW Unit => p.1.sameKey (key name)) ∘ entF) = fun u : RF => decide (u.name = name) := by funext u; exact key_same _ _
    rw [e]
    unfold findF
    cases fs.find? fun u => decide (u.name = name) <;> rfl
  · rw [List.pairwise_map]
    exact hn.imp fun hab ⟨h1, h2⟩ => by
      have e1 := (key_same _ _).symm.trans h1
      have e2 := (key_same _ _).symm.trans h2
      simp at e1 e2
      exact hab (e1.trans e2.symm)
theorem insert_perm (x : Lit × DataW Unit) : ∀ l : List (Lit × DataW Unit), (DataW.insert x l).Perm (x :: l)
  | [] => .refl _
  | y :: r => by
    unfold DataW.insert
    split
    · exact .refl _
    · exact ((insert_perm x r).cons y).trans (.swap x y r)
theorem not_same (name : ByteArray) : ((fun p : Lit × DataW Unit => !p.1.sameKey (key name)) ∘ entF) = fun f : RF => !decide (f.name = name) := by funext f; simp only [Function.comp]; rw [show (entF f).1 = key f.name from rfl, key_same]
theorem not_sameU (name : ByteArray) : ((fun p : Lit × DataW Unit => !p.1.sameKey (key name)) ∘ entU) = fun f : RU => !decide (f.name = name) := by funext f; simp only [Function.comp]; rw [show (entU f).1 = key f.name from rfl, key_same]
theorem setL_nodup (h : fs.Pairwise fun a b => a.name ≠ b.name) (name : ByteArray) (n now : Int) : (setL fs name n now).Pairwise fun a b => a.name ≠ b.name := by
  unfold setL
  rw [List.pairwise_append]
  refine ⟨h.filter _, by split <;> simp, fun a ha b hb => ?_⟩
  split at hb
  · have hb2 : b = ⟨name, n, now⟩ := by simpa using hb
    have := (List.mem_filter.1 ha).2
    simp at this
    rw [hb2]
    exact this
  · cases hb
theorem SimF.del (h : SimF D fs) (name : ByteArray) (now : Int) : SimF (D.del (key name)) (setL fs name 0 now) := by
  refine ⟨?_, setL_nodup h.nodup _ _ _⟩
  obtain ⟨es, rfl, hp⟩ := h.eq
  refine ⟨_, rfl, ?_⟩
  have := hp.filter (fun p : Lit × DataW Unit => !p.1.sameKey (key name))
  rw [List.filter_map, not_same] at this
  unfold setL
  rw [if_neg (by omega), List.append_nil]
  exact this
theorem SimF.put (h : SimF D fs) (name : ByteArray) (n now : Int) (hn : 0 < n) : SimF (D.put (key name) (failD n now)) (setL fs name n now) := by
  refine ⟨?_, setL_nodup h.nodup _ _ _⟩
  obtain ⟨es, rfl, hp⟩ := h.eq
  refine ⟨_, rfl, ?_⟩
  have := hp.filter (fun p : Lit × DataW Unit => !p.1.sameKey (key name))
  rw [List.filter_map, not_same] at this
  unfold setL
  rw [if_pos hn, List.map_append]
  refine (insert_perm _ _).trans ((this.cons _).trans ?_)
  exact (List.perm_append_singleton _ _).symm
theorem putL_perm (u : RU) : ∀ l : List RU, (putL u l).Perm (u :: l)
  | [] => .refl _
  | v :: r => by
    unfold putL
    split
    · exact ((putL_perm u r).cons v).trans (.swap u v r)
    · exact .refl _
theorem putL_sorted (u : RU) : ∀ l : List RU, (l.Pairwise fun a b => a.name.data.toList < b.name.data.toList) → (∀ v ∈ l, v.name ≠ u.name) → (putL u l).Pairwise fun a b => a.name.data.toList < b.name.data.toList
  | [], _, _ => by simp [putL]
  | v :: r, h, hne => by
    obtain ⟨h1, h2⟩ := List.pairwise_cons.1 h
    unfold putL
    split
    · rename_i hlt
      refine List.pairwise_cons.2 ⟨fun x hx => ?_, putL_sorted u r h2 (fun x hx => hne x (by simp [hx]))⟩
      rcases List.mem_cons.1 ((putL_perm u r).mem_iff.1 hx) with rfl | hx
      · exact hlt
      · exact h1 x hx
    · rename_i hnlt
      have hvu : u.name.data.toList < v.name.data.toList := by
        rcases Std.lt_trichotomy u.name.data.toList v.name.data.toList with a | a | a
        · exact a
        · exfalso; apply hne v (by simp); apply key_inj; show Lit.string _ = Lit.string _; rw [a]
        · exact absurd a hnlt
      refine List.pairwise_cons.2 ⟨fun x hx => ?_, h⟩
      rcases List.mem_cons.1 hx with rfl | hx
      · exact hvu
      · exact List.lt_trans hvu (h1 x hx)
theorem findU_none {name : ByteArray} (h : findU us name = none) : ∀ u ∈ us, u.name ≠ name := fun u hu e => by
  have := (List.find?_eq_none.1 h) u hu
  simp [e] at this
theorem SimU.put (h : SimU D us) (u : RU) (hn : findU us u.name = none) : SimU (D.put (key u.name) (entD u.salt u.times u.hash u.tag)) (putL u us) := by
  have hne := findU_none hn
  refine ⟨?_, putL_sorted u us h.sorted hne⟩
  obtain ⟨es, rfl, hp⟩ := h.eq
  refine ⟨_, rfl, ?_⟩
  have := hp.filter (fun p : Lit × DataW Unit => !p.1.sameKey (key u.name))
  have hfs : us.filter (fun f : RU => !decide (f.name = u.name)) = us := List.filter_eq_self.2 (fun v hv => by simp [hne v hv])
  rw [List.filter_map, not_sameU, hfs] at this
  exact (insert_perm _ _).trans ((this.cons _).trans (((putL_perm u us).map entU).symm))
theorem updU_perm (name h : ByteArray) {u : RU} : ∀ us : List RU, (us.Pairwise fun a b => a.name ≠ b.name) → findU us name = some u → (updU us name h).Perm ({ u with hash := h } :: us.filter fun v => !decide (v.name = name))
  | [], _, e => by cases e
  | v :: r, hn, e => by
    obtain ⟨h1, h2⟩ := List.pairwise_cons.1 hn
    by_cases hv : v.name = name
    · have hu : v = u := by
        unfold findU at e
        rw [List.find?_cons_of_pos (by simp [hv])] at e
        exact Option.some.inj e
      subst hu
      have e2 : updU (v :: r) name h = { v with hash := h } :: r := by
        unfold updU
        rw [List.map_cons, if_pos hv]
        congr 1
        rw [List.map_congr_left (g := id), List.map_id]
        intro x hx
        rw [if_neg (fun e3 => h1 x hx (hv.trans e3.symm))]
        rfl
      rw [e2, List.filter_cons_of_neg (by simp [hv]), List.filter_eq_self.2 (fun x hx => by have := h1 x hx; rw [hv] at this; simp [Ne.symm this])]
    · have e3 : findU r name = some u := by
        unfold findU at e ⊢
        rw [List.find?_cons_of_neg (by simp [hv])] at e
        exact e
      have ih := updU_perm name h r h2 e3
      have e2 : updU (v :: r) name h = v :: updU r name h := by
        unfold updU
        rw [List.map_cons, if_neg hv]
      rw [e2, List.filter_cons_of_pos (by simp [hv])]
      exact (ih.cons v).trans (.swap _ _ _)
theorem findU_some {u : RU} {name : ByteArray} (h : findU us name = some u) : u ∈ us ∧ u.name = name := ⟨List.mem_of_find?_eq_some h, by have := List.find?_some h; simpa using this⟩
theorem findF_some {f : RF} {name : ByteArray} (h : findF fs name = some f) : f ∈ fs ∧ f.name = name := ⟨List.mem_of_find?_eq_some h, by have := List.find?_some h; simpa using this⟩
theorem findF_none {name : ByteArray} (h : findF fs name = none) : ∀ u ∈ fs, u.name ≠ name := fun u hu e => by
  have := (List.find?_eq_none.1 h) u hu
  simp [e] at this
theorem SimU.upd (h : SimU D us) {u : RU} {name : ByteArray} (hf : findU us name = some u) (x : ByteArray) : SimU (D.put (key name) (entD u.salt u.times x u.tag)) (updU us name x) := by
  obtain ⟨hm, rfl⟩ := findU_some hf
  have hnm := h.names
  refine ⟨?_, ?_⟩
  · obtain ⟨es, rfl, hp⟩ := h.eq
    refine ⟨_, rfl, ?_⟩
    have := hp.filter (fun p : Lit × DataW Unit => !p.1.sameKey (key u.name))
    rw [List.filter_map, not_sameU] at this
    exact (insert_perm _ _).trans ((this.cons _).trans (((updU_perm u.name x us hnm hf).map entU).symm))
  · unfold updU
    rw [List.pairwise_map]
    refine h.sorted.imp fun {a b} hab => ?_
    split <;> split <;> exact hab
end
end Go.Proofs.YtkgbldkjpohinaaGreatDoor
namespace Go.Proofs.YtkgbldkjpohinaaGreatDoor
open Go.RowKit Go.Maps
open Go.WideMaps (keyOf_string_mk)
set_option linter.unusedVariables false
theorem count_strike (q left : ByteArray → Bool) (s : ByteArray) : ∀ (fs : List RF), (fs.Pairwise fun a b => a.name ≠ b.name) → (∃ f ∈ fs, f.name = s) → left s = true →
    (fs.filter fun f => left f.name && q f.name).length = (fs.filter fun f => (left f.name && !decide (f.name = s)) && q f.name).length + (if q s then 1 else 0)
  | [], _, ⟨f, hf, _⟩, _ => by cases hf
  | g :: r, hn, ⟨f, hf, hfs⟩, hl => by
    obtain ⟨h1, h2⟩ := List.pairwise_cons.1 hn
    by_cases hg : g.name = s
    · have e : (r.filter fun f => left f.name && q f.name) = r.filter fun f => (left f.name && !decide (f.name = s)) && q f.name := by
        refine List.filter_congr fun x hx => ?_
        have : x.name ≠ s := fun e => h1 x hx (hg.trans e.symm)
        simp [this]
      rw [List.filter_cons, List.filter_cons, e, hg, hl]
      cases q s <;> simp
    · have hr : ∃ f ∈ r, f.name = s := by
        rcases List.mem_cons.1 hf with rfl | hf
        · exact absurd hfs hg
        · exact ⟨f, hf, hfs⟩
      have ih := count_strike q left s r h2 hr hl
      rw [List.filter_cons, List.filter_cons]
      have e : (left g.name && !decide (g.name = s)) = left g.name := by simp [hg]
      rw [e]
      cases left g.name && q g.name
      · simpa using ih
      · simp only [if_true, List.length_cons]; omega
theorem count_none (q left : ByteArray → Bool) (fs : List RF) (h : ∀ s, left s = false) : (fs.filter fun f => left f.name && q f.name).length = 0 := by
  rw [List.length_eq_zero_iff, List.filter_eq_nil_iff]
  intro f _
  simp [h]
theorem findF_mem {fs : List RF} {f : RF} (h : f ∈ fs) : (findF fs f.name).isSome = true := by
  unfold findF
  rw [List.isSome_find?, List.any_eq_true]
  exact ⟨f, h, by simp⟩
set_option maxRecDepth 100000 in
set_option maxHeartbeats 2000000 in
theorem p_strangers {us : List RU} {fs : List RF} (b mu mf nu nf : Nat) (Du Df : DataW Unit) (tries wait : Int) (w : World) (hB : BookAt w b tries wait mu mf) (hu : w.ownsMap Tryz.prog 9 readU mu nu Du) (hf : w.ownsMap Tryz.prog 9 readF mf nf Df) (hsu : SimU Du us) (hsf : SimF Df fs) (hsz : fs.length < 1000000) :
    Calls Tryz.prog 22 #[.pointer (some ⟨b, 0, none⟩)] w fun e w' => e = .returned (.int .i64 (strangersL us fs)) ∧ Below w.heap.size w w' := by
  have c3 : w.cell? ⟨b, 3, none⟩ = some (.map (some mf)) := by rw [cell_of_row w b 3 _ 47 (0, 0) hB]; rfl
  have c2 : w.cell? ⟨b, 2, none⟩ = some (.map (some mu)) := by rw [cell_of_row w b 2 _ 47 (0, 0) hB]; rfl
  have hlt : b < w.heap.size := (Array.getElem?_eq_some_iff.1 hB).1
  have hmu := hu.lt
  have hmf := hf.lt
  have HSU := Lib.hid hsu
  have HSF := Lib.hid hsf
  clear hsu hsf
  go_enter Tryz.func22, Tryz.ntmps22
  go_wp2_with (first
    | (at_range; refine wpList_range_own _ rfl _ 45 rfl 9 63 law9 und60 readF mf nf Df rfl hf ?_; intro w0 hrg0 hg0 hs0)
    | go_in)
  go_frame
  have hb0 : Below w.heap.size w w0 := (Below.refl _ _).grown hg0 (Nat.le_refl _) (fun k hk => by cases hk)
  go_loopw [3] (fun u wr => ∃ (left : Lit → Bool) (cnt k : Nat), u = .int .i64 k ∧ wr.ranges Tryz.prog 9 readF mf w.heap.size nf Df left cnt ∧ k + (fs.filter fun f => left (key f.name) && (findU us f.name).isNone).length = strangersL us fs ∧ (∀ kl, left kl = true → Maps.has Df kl = true) ∧ Below w.heap.size w wr) (fun _ wr => wr.rangeLeft mf w.heap.size)
  case atStart =>
    refine ⟨_, _, 0, rfl, hrg0, ?_, ?_, hb0⟩
    · rw [Nat.zero_add]
      unfold strangersL
      congr 1
      refine List.filter_congr fun f hf => ?_
      rw [HSF.out.has, findF_mem hf]
      rfl
    · exact fun kl h => h
  case round =>
    clear hrg0 hg0 hs0 hb0
    obtain ⟨left, cnt, k, rfl, hrg, hk, hle, hb⟩ := hrel
    have hkb : k ≤ fs.length := by
      have h1 : strangersL us fs ≤ fs.length := List.length_filter_le _ _
      omega
    have HK := Lib.hid hk
    have HLE := Lib.hid hle
    clear hk hle
    go_wp2_with (first
      | (at_next; refine wpList_next_ranges _ rfl _ rfl 9 law9 readF (fun s : ByteArray => .string s) (fun p : Int × Int => .agg #[.int .i64 p.1, .int .i64 p.2]) (fun key kl h => by obtain ⟨s, rfl, _⟩ := key9_inv h; exact ⟨s, rfl⟩) (fun v y h => by obtain ⟨c, t, rfl, _⟩ := readF_inv h; exact ⟨(c, t), rfl⟩) mf w.heap.size nf Df _ _ rfl hrg ?_ ?_)
      | go_in)
    · intro _ hl0
      have hk2 : k = strangersL us fs := by
        have := HK.out
        rw [count_none (fun s => (findU us s).isNone) (fun s => left (key s)) fs (fun s => hl0 _)] at this
        omega
      have HK2 := Lib.hid hk2
      clear hk2 hl0
      go_wp2
      go_ret
      rw [← HK2.out]
      exact ⟨rfl, hb⟩
    · intro s c t kl yd yp w1 cnt1 hkey hlx hv hat hrg1 hlt1 hg1 hs1 hen
      obtain ⟨s', es, hkl, hsl⟩ := key9_inv hkey
      obtain rfl : s = s' := by simpa using es
      have hlx2 : left (key s) = true := by rw [hkl] at hlx; exact hlx
      have hhas : Maps.has Df (key s) = true := HLE.out _ hlx2
      rw [HSF.out.has] at hhas
      obtain ⟨f0, hf0⟩ := Option.isSome_iff_exists.1 hhas
      obtain ⟨hm0, hn0⟩ := findF_some hf0
      have hcs := count_strike (fun s => (findU us s).isNone) (fun s => left (key s)) s fs HSF.out.nodup ⟨f0, hm0, hn0⟩ hlx2
      have hnew : (fun z : Lit => left z && !z.sameKey kl) = fun z => left z && !z.sameKey (key s) := by rw [hkl]; rfl
      rw [hnew] at hrg1
      have hfe : (fs.filter fun f => (left (key f.name) && !decide (f.name = s)) && (findU us f.name).isNone) = fs.filter fun f => ((fun z : Lit => left z && !z.sameKey (key s)) (key f.name)) && (findU us f.name).isNone := by
        refine List.filter_congr fun f _ => ?_
        simp only [key_same]
      rw [hfe] at hcs
      have HCS := Lib.hid hcs
      have hb1 : Below w.heap.size w w1 := hb.grown hg1 hb.size (fun k hk => by cases hk; exact Nat.le_refl _)
      have c2' : w1.cell? ⟨b, 2, none⟩ = some (.map (some mu)) := (hb1.cell (p := ⟨b, 2, none⟩) hlt).trans c2
      have hu1 := ownsMap_below hu hb1 hmu
      have hex : Maps.has Du (.string s.data.toList) = (findU us s).isSome := HSU.out.has s
      cases hfu : findU us s with
      | none =>
        rw [hfu] at hex
        have hex2 : Maps.has Du (.string s.data.toList) = false := hex
        have hci : (findU us s).isNone = true := by rw [hfu]; rfl
        simp only [hci, if_true] at HCS
        clear hex hfu hcs hfe hnew hf0 hm0 hn0 hhas hlx2 hlx hkl hkey hv hat es hci
        go_wp2_with (first
          | (at_lookup; refine wpList_lookup_user _ rfl _ _ rfl mu nu Du rfl hu1 s rfl hsl ?_; intro p0 t0 q0 i0' hat0)
          | go_in)
        all_goals
          go_roundw
          case rel => exact ⟨_, cnt1, k + 1, by go_num, hrg1.alloc _, by have h1 := HK.out; have h2 := HCS.out; omega, fun kl h => HLE.out kl (by simp at h; exact h.1), hb1.alloc hb1.size _⟩
          case measure => rw [(hrg1.alloc _).left_eq, hrg.left_eq]; exact hlt1
      | some u =>
        rw [hfu] at hex
        have hex2 : Maps.has Du (.string s.data.toList) = true := hex
        have hci : (findU us s).isNone = false := by rw [hfu]; rfl
        simp only [hci] at HCS
        clear hex hfu hcs hfe hnew hf0 hm0 hn0 hhas hlx2 hlx hkl hkey hv hat es hci
        go_wp2_with (first
          | (at_lookup; refine wpList_lookup_user _ rfl _ _ rfl mu nu Du rfl hu1 s rfl hsl ?_; intro p0 t0 q0 i0' hat0)
          | go_in)
        all_goals
          go_roundw
          case rel => exact ⟨_, cnt1, k, rfl, hrg1.alloc _, by have h1 := HK.out; have h2 : _ = _ + 0 := HCS.out; omega, fun kl h => HLE.out kl (by simp at h; exact h.1), hb1.alloc hb1.size _⟩
          case measure => rw [(hrg1.alloc _).left_eq, hrg.left_eq]; exact hlt1
end Go.Proofs.YtkgbldkjpohinaaGreatDoor
