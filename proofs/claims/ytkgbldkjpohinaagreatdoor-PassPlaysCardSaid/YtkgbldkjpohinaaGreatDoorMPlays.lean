/- PassPlays: what the rounds keep to, plainly. PassPlays: the walk. PassPlays: bounds that may not be; all bounds. -/
import Derived.Test.YtkgbldkjpohinaaGreatDoorMRead
import Derived.Test.YtkgbldkjpohinaaGreatDoorBookChg
import Derived.Test.YtkgbldkjpohinaaGreatDoorRefChange
import Derived.Test.YtkgbldkjpohinaaGreatDoorRefText
import Derived.Test.YtkgbldkjpohinaaGreatDoorRefAdd
import Derived.Test.YtkgbldkjpohinaaGreatDoorBookAwake
import Derived.Deep.CutBlock
import Derived.Deep.RegionHeld3
import Derived.Deep.DeepCutAuto
namespace Go.Proofs.YtkgbldkjpohinaaGreatDoor
open Go.RowKit Go.Maps Go.Sort
set_option linter.unusedVariables false
structure PInv (most : Int) (us : List RU) (fs : List RF) (k : Nat) : Prop where
  good : ∀ u ∈ us, UGood u
  names : us.Pairwise fun a b => a.name ≠ b.name
  len : us.length ≤ 9
  fok : FOk fs
  flen : fs.length ≤ k
  str : strangersL us fs ≤ 9
theorem PInv.ok {most : Int} {us : List RU} {fs : List RF} {k : Nat} (h : PInv most us fs k) : ∀ u ∈ us, UOk u := fun u hu => (h.good u hu).ok
theorem PInv.salt {most : Int} {us : List RU} {fs : List RF} {k : Nat} (h : PInv most us fs k) : ∀ u ∈ us, u.salt.size ≤ 16 := fun u hu => (h.ok u hu).2.1
theorem PInv.mono {most : Int} {us : List RU} {fs : List RF} {k k' : Nat} (h : PInv most us fs k) (hk : k ≤ k') : PInv most us fs k' := ⟨h.good, h.names, h.len, h.fok, by have := h.flen; omega, h.str⟩
theorem pinv_zero (most : Int) : PInv most [] [] 0 := ⟨fun u hu => (by cases hu), List.Pairwise.nil, Nat.zero_le _, ⟨fun f hf => (by cases hf), fun f hf => (by cases hf)⟩, Nat.le_refl _, Nat.zero_le _⟩
theorem hexd_oct {k : Int} (h0 : 0 ≤ k) (h1 : k < 16) : 0 ≤ hexd k ∧ hexd k < 256 := by
  unfold hexd
  split <;> omega
theorem hexL_octs {l : List Int} (h : Octs l) : Octs (hexL l) := by
  induction l with
  | nil => intro x hx; cases hx
  | cons a l ih =>
    have ha := h a (by simp)
    have e : hexL (a :: l) = hexd (a / 16) :: hexd (a % 16) :: hexL l := by simp [hexL]
    rw [e]
    intro x hx
    rcases List.mem_cons.1 hx with rfl | hx
    · exact hexd_oct (by omega) (by omega)
    · rcases List.mem_cons.1 hx with rfl | hx
      · exact hexd_oct (by omega) (by omega)
      · exact ih (fun y hy => h y (by simp [hy])) x hx
theorem hash_hex (salt text : ByteArray) (times : Int) : ∃ o, unhexL (bytesOf (hashOf salt text times)) = some o ∧ o.length = 32 := by
  refine ⟨_, ?_, stretchL_length (bytesOf salt) (bytesOf text) (min (max times 0) 1000).toNat⟩
  unfold hashOf
  rw [bytesOf_strOfNums (hexL_octs (stretchL_octs _ _ _))]
  exact unhexL_hexL _ (stretchL_octs _ _ _)
theorem str_le {us us' : List RU} (fs : List RF) (h : ∀ n, (findU us' n).isNone = true → (findU us n).isNone = true) : strangersL us' fs ≤ strangersL us fs := by
  unfold strangersL
  rw [← List.countP_eq_length_filter, ← List.countP_eq_length_filter]
  exact List.countP_mono_left fun f _ hf => h f.name hf
theorem str_set0 (us : List RU) (fs : List RF) (name : ByteArray) (now : Int) : strangersL us (setL fs name 0 now) ≤ strangersL us fs := by
  unfold strangersL setL
  rw [if_neg (by omega), List.append_nil, List.filter_filter, ← List.countP_eq_length_filter, ← List.countP_eq_length_filter]
  exact List.countP_mono_left fun f _ hf => by simp at hf; simp [hf.1]
theorem str_set (us : List RU) (fs : List RF) (name : ByteArray) (n now : Int) (hn : 0 < n) : strangersL us (setL fs name n now) = strangersL us (setL fs name 0 0) + (if (findU us name).isNone then 1 else 0) := by
  unfold strangersL setL
  rw [if_pos hn, if_neg (by omega), List.append_nil, List.filter_append, List.length_append]
  congr 1
  cases h : (findU us name).isNone <;> simp [h]
theorem fok_set {fs : List RF} (h : FOk fs) (name : ByteArray) (n now : Int) (h1 : n ≤ 9) (h0 : 0 ≤ now) (hm : now ≤ 9223372036854775807) : FOk (setL fs name n now) := by
  have hs : ∀ f ∈ setL fs name n now, f ∈ fs ∨ (0 < n ∧ f = ⟨name, n, now⟩) := fun f hf => by
    unfold setL at hf
    rcases List.mem_append.1 hf with hf | hf
    · exact .inl (List.mem_filter.1 hf).1
    · split at hf
      · rename_i hn
        exact .inr ⟨hn, List.mem_singleton.1 hf⟩
      · cases hf
  refine ⟨fun f hf => ?_, fun f hf => ?_⟩
  · rcases hs f hf with h2 | ⟨h2, rfl⟩
    · exact h.n1 f h2
    · exact ⟨by show 1 ≤ n; omega, h1⟩
  · rcases hs f hf with h2 | ⟨h2, rfl⟩
    · exact h.t0 f h2
    · exact ⟨h0, hm⟩
theorem cnt_le {fs : List RF} (h : FOk fs) (name : ByteArray) : 0 ≤ cnt fs name := by
  unfold cnt
  cases hf : findF fs name with
  | none => simp
  | some f => have := h.n1 f (findF_some hf).1; simp only; omega
/-- What one more failure leaves. -/
theorem go_inv {most : Int} {us : List RU} {fs : List RF} {k : Nat} (h : PInv most us fs k) (name text : ByteArray) (now : Int) (h0 : 0 ≤ now) (hm : now ≤ 9223372036854775807) (hc : cnt fs name ≤ 8) : PInv most us (tryGo us fs name text now).2 (k + 1) := by
  have hset : ∀ n, n ≤ 9 → strangersL us (setL fs name n now) ≤ 9 → PInv most us (setL fs name n now) (k + 1) := fun n hn hs =>
    ⟨h.good, h.names, h.len, fok_set h.fok name n now hn h0 hm, by have := setL_len fs name n now; have := h.flen; omega, hs⟩
  have h00 := str_set0 us fs name now
  have hz := h.str
  unfold tryGo
  cases hu : findU us name with
  | some u =>
    simp only
    split
    · refine ⟨h.good, h.names, h.len, h.fok.set0 name 0, show (setL fs name 0 0).length ≤ k + 1 from ?_, show strangersL us (setL fs name 0 0) ≤ 9 from ?_⟩
      · have := setL_len0 fs name 0
        have := h.flen
        omega
      · have := str_set0 us fs name 0
        omega
    · have hs := str_set us fs name (cnt fs name + 1) now (by have := cnt_le h.fok name; omega)
      have := str_set0 us fs name 0
      rw [hu] at hs
      simp only [Option.isNone_some] at hs
      exact hset _ (by omega) (by rw [hs]; simp; omega)
  | none =>
    simp only
    have hs := str_set us fs name (cnt fs name + 1) now (by have := cnt_le h.fok name; omega)
    rw [hu] at hs
    simp only [Option.isNone_none, if_true] at hs
    split
    · rename_i hgo
      refine hset _ (by omega) ?_
      rcases hgo with h1 | h1
      · have hsome : (findF fs name).isSome = true := by
          unfold cnt at h1
          cases hf : findF fs name with
          | some f => rfl
          | none => rw [hf] at h1; simp at h1
        have := stranger_less hu hsome
        omega
      · have := str_set0 us fs name 0
        omega
    · exact h.mono (by omega)
theorem try_inv {most wait : Int} {us : List RU} {fs : List RF} {k : Nat} (h : PInv most us fs k) (name text : ByteArray) (now : Int) (h1 : 1 ≤ most) (h9 : most ≤ 9) (hm : now ≤ 9223372036854775807) : PInv most us (tryR most wait us fs name text now).2 (k + 1) := by
  by_cases h0 : now < 0 ∨ 64 < text.size
  · have : (tryR most wait us fs name text now).2 = fs := by unfold tryR; rw [if_pos h0]
    rw [this]
    exact h.mono (by omega)
  · rw [tryR_lock most wait us fs name text now h0]
    rcases lockR_C most wait fs name now h1 with ⟨e1, _⟩ | ⟨fs', c', e1, e2, e3, e4⟩
    · rw [e1]; exact h.mono (by omega)
    · rw [e1]
      simp only
      have hc8 : cnt fs' name ≤ 8 := by
        rw [← e3]
        unfold lockC at e2
        split at e2
        · split at e2
          · cases e2
          · have := Option.some.inj e2; omega
        · have := Option.some.inj e2; omega
      have hi : PInv most us fs' k := by
        rcases e4 with rfl | ⟨rfl, _⟩
        · exact h
        · exact ⟨h.good, h.names, h.len, h.fok.set0 name 0, by have := setL_len0 fs name 0; have := h.flen; omega, by have := str_set0 us fs name 0; have := h.str; omega⟩
      exact go_inv hi name text now (by omega) hm hc8
theorem upd_none (us : List RU) (name h n : ByteArray) : (findU (updU us name h) n).isNone = (findU us n).isNone := by
  unfold findU updU
  rw [List.find?_map, Option.isNone_map]
  congr 2
  funext u
  simp only [Function.comp]
  split <;> rfl
theorem change_inv {most wait : Int} {us : List RU} {fs : List RF} {k : Nat} (h : PInv most us fs k) (name old text : ByteArray) (now : Int) (h1 : 1 ≤ most) (h9 : most ≤ 9) (hm : now ≤ 9223372036854775807) : PInv most (changeR most wait us fs name old text now).2.1 (changeR most wait us fs name old text now).2.2 (k + 1) := by
  have ht := try_inv (wait := wait) h name old now h1 h9 hm
  unfold changeR
  split
  · exact h.mono (by omega)
  · simp only
    cases hu : findU us name with
    | none => exact ht
    | some u =>
      simp only
      split
      · obtain ⟨o, ho⟩ := hash_hex u.salt text u.times
        refine ⟨?_, ?_, by unfold updU; rw [List.length_map]; exact h.len, ht.fok, ht.flen, Nat.le_trans (str_le _ fun n hn => by rw [upd_none] at hn; exact hn) ht.str⟩
        · intro v hv
          unfold updU at hv
          obtain ⟨x, hx, rfl⟩ := List.mem_map.1 hv
          have hg := h.good x hx
          split
          · exact ⟨hg.may, o, ho⟩
          · exact hg
        · unfold updU
          rw [List.pairwise_map]
          exact h.names.imp fun {a b} hab => by split <;> split <;> exact hab
      · exact ht
theorem add_inv {most : Int} {us : List RU} {fs : List RF} {k : Nat} (h : PInv most us fs k) (name salt text : ByteArray) (times tag : Int) : PInv most (addR us name salt text times tag).2 fs (k + 1) := by
  unfold addR
  split
  · exact h.mono (by omega)
  · rename_i hb
    split
    · exact h.mono (by omega)
    · rename_i hf
      split
      · exact h.mono (by omega)
      · rename_i h9
        have hmay : mayB name salt times tag = true := by
          cases hm : mayB name salt times tag with
          | true => rfl
          | false => exact absurd (.inl hm) hb
        have hn : findU us name = none := by
          cases hu : findU us name with
          | none => rfl
          | some u => rw [hu] at hf; exact absurd rfl hf
        have hp := putL_perm ⟨name, salt, hashOf salt text times, times, tag⟩ us
        refine ⟨?_, ?_, ?_, h.fok, by have := h.flen; omega, Nat.le_trans (str_le _ fun n hnn => ?_) h.str⟩
        · intro v hv
          rcases List.mem_cons.1 (hp.mem_iff.1 hv) with rfl | hv
          · exact ⟨hmay, hash_hex salt text times⟩
          · exact h.good v hv
        · refine hp.symm.pairwise ?_ (fun {a b} h => h.symm)
          exact List.pairwise_cons.2 ⟨fun v hv e => findU_none hn v hv e.symm, h.names⟩
        · rw [hp.length_eq]; simp; omega
        · unfold findU at hnn ⊢
          rw [Option.isNone_iff_eq_none, List.find?_eq_none] at hnn ⊢
          exact fun x hx => hnn x (hp.mem_iff.2 (List.mem_cons_of_mem _ hx))
end Go.Proofs.YtkgbldkjpohinaaGreatDoor
namespace Go.Proofs.YtkgbldkjpohinaaGreatDoor
open Go.RowKit Go.Maps Go.Sort LatT
set_option linter.unusedVariables false
/-- A call of the script. -/
structure OpV where
  kind : Int
  n : Int
  tag : Int
  name : ByteArray
  salt : ByteArray
  pass : ByteArray
  more : ByteArray
instance : Inhabited OpV := ⟨⟨0, 0, 0, ⟨#[]⟩, ⟨#[]⟩, ⟨#[]⟩, ⟨#[]⟩⟩⟩
def OpV.cells (o : OpV) : List Value := [.int .i64 o.kind, .int .i64 o.n, .int .i64 o.tag, .string o.name, .string o.salt, .string o.pass, .string o.more]
structure OpOk (o : OpV) : Prop where
  name : o.name.size ≤ maxLen
  salt : o.salt.size ≤ maxLen
  n : o.n ≤ 9223372036854775807
def OpsIn (w : World) (v : Value) (n : Nat) (F : Nat → OpV) : Prop := ∃ ao cap, v = .slice ao n cap ∧ n ≤ maxLen ∧ ∀ i, i < n → OpOk (F i) ∧ ∃ b off, ao = some ⟨b, off, none⟩ ∧ b < w.heap.size ∧ ∀ j, j < 7 → w.cell? ⟨b, off + (i * 7 + j), none⟩ = (F i).cells[j]?
/-- Both books in step. -/
structure Both (w wr : World) (b mu mf p : Nat) (most wait : Int) (us : List RU) (fs : List RF) (k : Nat) : Prop where
  st : ∃ (nu nf : Nat) (D Df : DataW Unit), BookSt w wr b mu mf most wait nu nf D Df ∧ SimU D us ∧ SimF Df fs ∧ nu ≤ k ∧ nf ≤ k
  ref : RefSt w.heap.size wr p most wait us fs
  inv : PInv most us fs k
theorem BookSt.keepR {w0 w w' : World} {b mu mf : Nat} {tries wait : Int} {nu nf : Nat} {Du Df : DataW Unit} (h : BookSt w0 w b mu mf tries wait nu nf Du Df) (hf : Fr RefM w w') (hb : Below w0.heap.size w w') : BookSt w0 w' b mu mf tries wait nu nf Du Df := by
  obtain ⟨es1, cl1, e1, r1⟩ := h.hu
  obtain ⟨es2, cl2, e2, r2⟩ := h.hf
  exact ⟨hf.block _ _ h.at_ (not_ref_cells (by decide) (by decide) (by decide)), ⟨es1, cl1, hf.block _ _ e1 not_ref_map, r1⟩, ⟨es2, cl2, hf.block _ _ e2 not_ref_map, r2⟩, h.below.trans hb, h.o1, h.o2, h.o3⟩
theorem Both.keepB {w wr wx : World} {b mu mf p : Nat} {most wait : Int} {us : List RU} {fs : List RF} {k : Nat} (h : Both w wr b mu mf p most wait us fs k) (hb : Below wr.heap.size wr wx) : Both w wx b mu mf p most wait us fs k := by
  obtain ⟨⟨nu, nf, D, Df, h1, h2⟩, h3, h4⟩ := h
  exact ⟨⟨nu, nf, D, Df, h1.keep hb, h2⟩, h3.keep hb, h4⟩
theorem Both.mono {w wr : World} {b mu mf p : Nat} {most wait : Int} {us : List RU} {fs : List RF} {k : Nat} (h : Both w wr b mu mf p most wait us fs k) : Both w wr b mu mf p most wait us fs (k + 1) := by
  obtain ⟨⟨nu, nf, D, Df, h1, h2, h3, h4, h5⟩, h6, h7⟩ := h
  exact ⟨⟨nu, nf, D, Df, h1, h2, h3, by omega, by omega⟩, h6, h7.mono (by omega)⟩
set_option maxRecDepth 100000 in
set_option maxHeartbeats 8000000 in
theorem plays_any (most wait : Int) (v : Value) (n : Nat) (F : Nat → OpV) (w : World) (h : OpsIn w v n F) (hv : LibV w) (m0 : 1 ≤ most) (m1 : most ≤ 9) (m2 : 1 ≤ wait) (m3 : wait ≤ 1000000) :
    Calls Tryz.prog 3 #[.int .i64 most, .int .i64 wait, v] w fun e w' => e = .returned (.bool true) ∧ Below w.heap.size w w' := by
  obtain ⟨ao, cap, rfl, hnm, hops⟩ := h
  have HOPS := Lib.hid hops
  have HV := Lib.hid hv
  have HN := Lib.hid (st_new most wait w m0 m1 m2 m3)
  have HNR := Lib.hid (fun W => r_new most wait W m0 m1 m2 m3)
  have HAW := Lib.hid awake15_any
  have HM := Lib.hid (And.intro m0 (And.intro m1 (And.intro m2 m3)))
  clear hops hv m0 m1 m2 m3
  go_enter Tryz.func3, Tryz.ntmps3
  go_upto_block 0 with (first
    | (go_at_call 4; refine HN.out.mono ?_; rintro e w1 ⟨b, mu, mf, rfl, h1⟩; have H1 := Lib.hid h1; clear h1)
    | (go_at_call 5; refine (HNR.out _).mono ?_; rintro e w2 ⟨p, rfl, h2, hb2⟩; have H2 := Lib.hid h2; have B2 := Lib.hid hb2; clear h2 hb2)
    | (go_at_call 6; refine (HAW.out _).mono ?_; rintro e w3 ⟨rfl, hb3⟩; have B3 := Lib.hid hb3; clear hb3))
  have hB3 : Below w.heap.size w w3 := (H1.out.below.trans (B2.out.mono H1.out.below.size)).trans (B3.out.mono (by have := H1.out.below.size; have := B2.out.size; omega))
  have hstart : Both w w3 b mu mf p most wait [] [] 0 :=
    ⟨⟨0, 0, _, _, (H1.out.keep B2.out).keep B3.out, sim_zero, ⟨⟨[], rfl, List.Perm.refl _⟩, List.Pairwise.nil⟩, Nat.le_refl _, Nat.le_refl _⟩, (H2.out.keep B3.out).base H1.out.below.size, pinv_zero most⟩
  have HSTART := Lib.hid hstart
  have HB3 := Lib.hid hB3
  clear hB3 hstart H1 H2 B2 B3
  go_wp2
  go_loopw [11] (fun i wr => ∃ (k : Nat) (us : List RU) (fs : List RF), i = .int .i64 k ∧ k ≤ 40 ∧ Both w wr b mu mf p most wait us fs k) (fun i _ => 40 - (intOf i).toNat)
  case atStart => exact ⟨0, [], [], rfl, by omega, HSTART.out⟩
  case round =>
    obtain ⟨k, us, fs, rfl, hk, hboth⟩ := hrel
    clear HSTART HB3
    have HBO := Lib.hid hboth
    clear hboth
    have hbelow : Below w.heap.size w wr := by obtain ⟨_, _, _, _, h, _⟩ := HBO.out.st; exact h.below
    have HBW := Lib.hid hbelow
    have hbs := hbelow.size
    clear hbelow
    by_cases hlt : k < n
    · by_cases h40 : k < 40
      · obtain ⟨hop, ob, off, hao, hobl, hcells⟩ := HOPS.out k hlt
        subst hao
        obtain ⟨O, hO⟩ : ∃ O, O = F k := ⟨_, rfl⟩
        rw [← hO] at hop hcells
        have hc : ∀ j, j < 7 → wr.cell? ⟨ob, off + (k * 7 + j), none⟩ = O.cells[j]? := fun j hj => (HBW.out.cell (p := ⟨ob, off + (k * 7 + j), none⟩) hobl).trans (hcells j hj)
        have c0 : wr.cell? ⟨ob, off + k * 7, none⟩ = some (.int .i64 O.kind) := hc 0 (by omega)
        have c1 : wr.cell? ⟨ob, off + k * 7 + 1, none⟩ = some (.int .i64 O.n) := hc 1 (by omega)
        have c2 : wr.cell? ⟨ob, off + k * 7 + 2, none⟩ = some (.int .i64 O.tag) := hc 2 (by omega)
        have c3 : wr.cell? ⟨ob, off + k * 7 + 3, none⟩ = some (.string O.name) := hc 3 (by omega)
        have c4 : wr.cell? ⟨ob, off + k * 7 + 4, none⟩ = some (.string O.salt) := hc 4 (by omega)
        have c5 : wr.cell? ⟨ob, off + k * 7 + 5, none⟩ = some (.string O.pass) := hc 5 (by omega)
        have c6 : wr.cell? ⟨ob, off + k * 7 + 6, none⟩ = some (.string O.more) := hc 6 (by omega)
        have d1 : decide ((k : Int) < n) = true := decide_eq_true (by omega)
        have d2 : decide ((k : Int) < 40) = true := decide_eq_true (by omega)
        clear hc hcells hO
        obtain ⟨W, hW⟩ : ∃ W, W = wr.alloc (.cells #[.int .i64 O.kind, .int .i64 O.n, .int .i64 O.tag, .string O.name, .string O.salt, .string O.pass, .string O.more] 32) := ⟨_, rfl⟩
        have hrow : W.heap[wr.heap.size]? = some (.cells #[.int .i64 O.kind, .int .i64 O.n, .int .i64 O.tag, .string O.name, .string O.salt, .string O.pass, .string O.more] 32 (0, 0)) := by rw [hW]; exact heap_alloc_new _ _
        have hWb : Below wr.heap.size wr W := by rw [hW]; exact (Below.refl _ _).alloc (Nat.le_refl _) _
        have HROW := Lib.hid hrow
        have HWB := Lib.hid hWb
        clear hrow hWb
        go_upto_block 2 with (fail)
        rw [← hW]
        clear hW
        have HBO2 := Lib.hid (HBO.out.keepB HWB.out)
        clear c0 c1 c2 c3 c4 c5 c6 HBO
        have HC : Hid (∀ wx : World, wx.heap[wr.heap.size]? = some (.cells #[.int .i64 O.kind, .int .i64 O.n, .int .i64 O.tag, .string O.name, .string O.salt, .string O.pass, .string O.more] 32 (0, 0)) → wx.cell? ⟨wr.heap.size, 0, none⟩ = some (.int .i64 O.kind) ∧ wx.cell? ⟨wr.heap.size, 1, none⟩ = some (.int .i64 O.n) ∧ wx.cell? ⟨wr.heap.size, 2, none⟩ = some (.int .i64 O.tag) ∧ wx.cell? ⟨wr.heap.size, 3, none⟩ = some (.string O.name) ∧ wx.cell? ⟨wr.heap.size, 4, none⟩ = some (.string O.salt) ∧ wx.cell? ⟨wr.heap.size, 5, none⟩ = some (.string O.pass) ∧ wx.cell? ⟨wr.heap.size, 6, none⟩ = some (.string O.more)) := fun wx h1 =>
          ⟨by rw [cell_of_row wx _ 0 _ 32 (0, 0) h1]; rfl, by rw [cell_of_row wx _ 1 _ 32 (0, 0) h1]; rfl, by rw [cell_of_row wx _ 2 _ 32 (0, 0) h1]; rfl, by rw [cell_of_row wx _ 3 _ 32 (0, 0) h1]; rfl, by rw [cell_of_row wx _ 4 _ 32 (0, 0) h1]; rfl, by rw [cell_of_row wx _ 5 _ 32 (0, 0) h1]; rfl, by rw [cell_of_row wx _ 6 _ 32 (0, 0) h1]; rfl⟩
        have RM : Hid (∀ (u v : World), u.heap[wr.heap.size]? = some (.cells #[.int .i64 O.kind, .int .i64 O.n, .int .i64 O.tag, .string O.name, .string O.salt, .string O.pass, .string O.more] 32 (0, 0)) → (Fr MapM u v ∨ Fr RefM u v) → v.heap[wr.heap.size]? = some (.cells #[.int .i64 O.kind, .int .i64 O.n, .int .i64 O.tag, .string O.name, .string O.salt, .string O.pass, .string O.more] 32 (0, 0))) := fun u v h1 hf => by
          rcases hf with hf | hf
          · exact hf.block _ _ h1 not_map_cells
          · exact hf.block _ _ h1 (not_ref_cells (by decide) (by decide) (by decide))
        go_cut [13] (fun v13 wx => ∃ (us' : List RU) (fs' : List RF), v13 = .bool true ∧ Both w wx b mu mf p most wait us' fs' (k + 1))
        case first =>
          obtain ⟨x0, x1, x2, x3, x4, x5, x6⟩ := HC.out W HROW.out
          obtain ⟨⟨nu, nf, D, Df, hst, hsu, hsf, hnu, hnf⟩, href, hinv⟩ := HBO2.out
          have HST := Lib.hid hst
          have HSU := Lib.hid hsu
          have HSF := Lib.hid hsf
          have HREF := Lib.hid href
          have HINV := Lib.hid hinv
          have HOP := Lib.hid hop
          have hwW : w.heap.size ≤ W.heap.size := hst.below.size
          clear hst hsu hsf href hinv hop
          by_cases hk0 : O.kind = 0
          · have e0 : (O.kind == 0) = true := by simp [hk0]
            by_cases hmid : 10 < O.n ∧ O.n ≤ 100
            · have d3 : decide (O.n > 10) = true := decide_eq_true hmid.1
              have d4 : decide (O.n ≤ 100) = true := decide_eq_true hmid.2
              clear hk0 hmid
              go_wp2
              go_roundw
              case rel => exact ⟨k + 1, us, fs, by go_num, by omega, HBO2.out.mono⟩
              case measure => show 40 - ((k : Int) + 1).toNat < 40 - (k : Int).toNat; omega
            · have HPA := Lib.hid (fun (wx : World) (hx : Below W.heap.size W wx) => p_add (HST.out.keep hx) HSU.out O.name O.salt O.pass O.n O.tag (by omega) HOP.out.name HOP.out.salt)
              have hadd := add_inv HINV.out O.name O.salt O.pass O.n O.tag
              obtain ⟨r, hr⟩ : ∃ r, r = addR us O.name O.salt O.pass O.n O.tag := ⟨_, rfl⟩
              have HRA := Lib.hid (fun (wx : World) (hx : RefSt w.heap.size wx p most wait us fs) (hs : w.heap.size ≤ wx.heap.size) => r_add hx O.name O.salt O.pass O.n O.tag hs (by have := HINV.out.len; omega) HOP.out.name HOP.out.salt)
              rw [← hr] at HPA HRA hadd
              have HADD := Lib.hid hadd
              clear hadd hr
              have hcase : decide (O.n > 10) = false ∨ (decide (O.n > 10) = true ∧ decide (O.n ≤ 100) = false) := by
                by_cases h10 : 10 < O.n
                · exact .inr ⟨decide_eq_true h10, decide_eq_false (by omega)⟩
                · exact .inl (decide_eq_false (by omega))
              clear hk0 hmid
              rcases hcase with d3 | ⟨d3, d4⟩
              all_goals
                go_upto_region 16 with (fail)
                have HKEEP : Hid (∀ wx : World, wx.heap[wr.heap.size]? = some (.cells #[.int .i64 O.kind, .int .i64 O.n, .int .i64 O.tag, .string O.name, .string O.salt, .string O.pass, .string O.more] 32 (0, 0)) → wx.cell? ⟨wr.heap.size, 1, none⟩ = some (.int .i64 O.n) ∧ wx.cell? ⟨wr.heap.size, 2, none⟩ = some (.int .i64 O.tag) ∧ wx.cell? ⟨wr.heap.size, 3, none⟩ = some (.string O.name) ∧ wx.cell? ⟨wr.heap.size, 4, none⟩ = some (.string O.salt) ∧ wx.cell? ⟨wr.heap.size, 5, none⟩ = some (.string O.pass)) := fun wx h1 => by
                  obtain ⟨_, y1, y2, y3, y4, y5, _⟩ := HC.out wx h1
                  exact ⟨y1, y2, y3, y4, y5⟩
                clear x0 x1 x2 x3 x4 x5 x6
                go_region_held3 (fun wx : World => wx.cell? ⟨wr.heap.size, 1, none⟩ = some (.int .i64 O.n) ∧ wx.cell? ⟨wr.heap.size, 2, none⟩ = some (.int .i64 O.tag) ∧ wx.cell? ⟨wr.heap.size, 3, none⟩ = some (.string O.name) ∧ wx.cell? ⟨wr.heap.size, 4, none⟩ = some (.string O.salt) ∧ wx.cell? ⟨wr.heap.size, 5, none⟩ = some (.string O.pass)) (first | exact HKEEP.out _ R6.out | exact HKEEP.out _ R5.out | exact HKEEP.out _ HROW.out) ((first
                  | (go_at_call 7; refine (HPA.out _ (Below.refl _ _).drew).mono ?_; rintro e w5 ⟨rfl, D5, k1, k2, k3⟩; have R5 := Lib.hid (RM.out W.drew w5 HROW.out (.inl k3)); have K1 := Lib.hid k1; have K2 := Lib.hid k2; have K3 := Lib.hid k3; have F5 := Lib.hid ((HREF.out.keep (Below.refl W.heap.size W).drew).keepP k3); clear k1 k2 k3)
                  | (go_at_call 8; refine (HRA.out _ F5.out (by have := K1.out.below.size; omega)).mono ?_; rintro e w6 ⟨rfl, m1, m2, m3⟩; have R6 := Lib.hid (RM.out w5 w6 R5.out (.inr m2)); have M1 := Lib.hid m1; have M2 := Lib.hid m2; have M3 := Lib.hid m3; clear m1 m2 m3)))
                all_goals
                  go_wp2
                  go_meet
                  case rel => exact ⟨r.2, fs, rfl, ⟨nu + 1, nf, D5, Df, K1.out.keepR M2.out M3.out, K2.out, HSF.out, by omega, by omega⟩, M1.out, HADD.out⟩
          · have e0 : (O.kind == 0) = false := by simp [hk0]
            by_cases hk1 : O.kind = 1
            · have e1 : (O.kind == 1) = true := by simp [hk1]
              clear hk0 hk1
              have HPT := Lib.hid (fun (wx : World) (hx : Below W.heap.size W wx) => p_try (HST.out.keep hx) HSU.out HSF.out O.name O.pass O.n HM.out.1 (by have := HINV.out.flen; omega) (by omega) HINV.out.fok HINV.out.str HOP.out.n HOP.out.name HINV.out.salt)
              have HRT := Lib.hid (fun (wx : World) (hx : RefSt w.heap.size wx p most wait us fs) (hs : w.heap.size ≤ wx.heap.size) => r_try hx O.name O.pass O.n hs (by have := HINV.out.len; omega) (by have := HINV.out.flen; omega) HM.out.2.2.1 HINV.out.fok HOP.out.n HINV.out.salt)
              have htry := try_inv (wait := wait) HINV.out O.name O.pass O.n HM.out.1 HM.out.2.1 HOP.out.n
              obtain ⟨r, hr⟩ : ∃ r, r = tryR most wait us fs O.name O.pass O.n := ⟨_, rfl⟩
              rw [← hr] at HPT HRT htry
              obtain ⟨⟨r1, r2⟩, rf⟩ := r
              have HTRY := Lib.hid htry
              clear htry hr
              go_wp2_with (first
                | (go_at_call 9; (refine (HPT.out _ (Below.refl _ _)).mono ?_; rintro e w5 ⟨rfl, nf5, D5, hnf5, k1, k2, k3⟩; have G5 := Lib.hid (grown_fr HST.out.hf k3); have R5 := Lib.hid (RM.out W w5 HROW.out (.inl G5.out)); obtain ⟨y0, y1, y2, y3, y4, y5, y6⟩ := HC.out w5 R5.out; have K1 := Lib.hid k1; have K2 := Lib.hid k2; have F5 := Lib.hid (HREF.out.keepP G5.out); clear k1 k2 k3))
                | (go_at_call 10; refine (HRT.out _ F5.out (by have := K1.out.below.size; omega)).mono ?_; rintro e w6 ⟨rfl, m1, m2, m3⟩; have M1 := Lib.hid m1; have M2 := Lib.hid m2; have M3 := Lib.hid m3; clear m1 m2 m3))
              go_meet
              case rel => exact ⟨us, rf, by simp, ⟨nu, nf5, D, D5, K1.out.keepR M2.out M3.out, HSU.out, K2.out, by omega, by omega⟩, M1.out, HTRY.out⟩
            · have e1 : (O.kind == 1) = false := by simp [hk1]
              by_cases hk2 : O.kind = 2
              · have e2 : (O.kind == 2) = true := by simp [hk2]
                clear hk0 hk1 hk2
                have HPC := Lib.hid (fun (wx : World) (hx : Below W.heap.size W wx) => p_change (HST.out.keep hx) HSU.out HSF.out O.name O.pass O.more O.n HM.out.1 (by have := HINV.out.flen; omega) (by omega) (by omega) HINV.out.fok HINV.out.str HOP.out.n HOP.out.name HINV.out.salt)
                have HRC := Lib.hid (fun (wx : World) (hx : RefSt w.heap.size wx p most wait us fs) (hs : w.heap.size ≤ wx.heap.size) => r_change hx O.name O.pass O.more O.n hs (by have := HINV.out.len; omega) (by have := HINV.out.flen; omega) HM.out.2.2.1 HINV.out.fok HOP.out.n HINV.out.salt HINV.out.names)
                have hch := change_inv (wait := wait) HINV.out O.name O.pass O.more O.n HM.out.1 HM.out.2.1 HOP.out.n
                obtain ⟨r, hr⟩ : ∃ r, r = changeR most wait us fs O.name O.pass O.more O.n := ⟨_, rfl⟩
                rw [← hr] at HPC HRC hch
                obtain ⟨r1, ru, rf⟩ := r
                have HCH := Lib.hid hch
                clear hch hr
                have HKEEP : Hid (∀ wx : World, wx.heap[wr.heap.size]? = some (.cells #[.int .i64 O.kind, .int .i64 O.n, .int .i64 O.tag, .string O.name, .string O.salt, .string O.pass, .string O.more] 32 (0, 0)) → wx.cell? ⟨wr.heap.size, 1, none⟩ = some (.int .i64 O.n) ∧ wx.cell? ⟨wr.heap.size, 3, none⟩ = some (.string O.name) ∧ wx.cell? ⟨wr.heap.size, 5, none⟩ = some (.string O.pass) ∧ wx.cell? ⟨wr.heap.size, 6, none⟩ = some (.string O.more)) := fun wx h1 => by
                  obtain ⟨_, y1, y2, y3, y4, y5, y6⟩ := HC.out wx h1
                  exact ⟨y1, y3, y5, y6⟩
                go_upto_region 22 with (fail)
                clear x0 x1 x2 x3 x4 x5 x6
                go_region_held3 (fun wx : World => wx.cell? ⟨wr.heap.size, 1, none⟩ = some (.int .i64 O.n) ∧ wx.cell? ⟨wr.heap.size, 3, none⟩ = some (.string O.name) ∧ wx.cell? ⟨wr.heap.size, 5, none⟩ = some (.string O.pass) ∧ wx.cell? ⟨wr.heap.size, 6, none⟩ = some (.string O.more)) (first | exact HKEEP.out _ R6.out | exact HKEEP.out _ R5.out | exact HKEEP.out _ HROW.out) ((first
                  | (go_at_call 11; refine (HPC.out _ (Below.refl _ _).drew).mono ?_; rintro e w5 ⟨rfl, nf5, D5, Df5, hnf5, k1, k2, k3, k4⟩; have R5 := Lib.hid (RM.out W.drew w5 HROW.out (.inl k4)); have K1 := Lib.hid k1; have K2 := Lib.hid k2; have K3 := Lib.hid k3; have F5 := Lib.hid ((HREF.out.keep (Below.refl W.heap.size W).drew).keepP k4); clear k1 k2 k3 k4)
                  | (go_at_call 12; refine (HRC.out _ F5.out (by have := K1.out.below.size; omega)).mono ?_; rintro e w6 ⟨rfl, m1, m2, m3⟩; have R6 := Lib.hid (RM.out w5 w6 R5.out (.inr m2)); have M1 := Lib.hid m1; have M2 := Lib.hid m2; have M3 := Lib.hid m3; clear m1 m2 m3)))
                all_goals
                  go_wp2
                  go_meet
                  case rel => exact ⟨ru, rf, by simp, ⟨nu + 1, nf5, D5, Df5, K1.out.keepR M2.out M3.out, K2.out, K3.out, by omega, by omega⟩, M1.out, HCH.out⟩
              · have e2 : (O.kind == 2) = false := by simp [hk2]
                clear hk0 hk1 hk2
                have HV2 : Hid (∀ wx : World, Below W.heap.size W wx → LibV wx) := fun wx hx => HV.out.below (HST.out.below.trans (hx.mono hwW)) (Nat.le_refl _)
                have HPX := Lib.hid (fun (wx : World) (hx : Below W.heap.size W wx) => p_text (HST.out.keep hx) HSU.out HINV.out.ok (by have := HINV.out.len; omega) HV.out)
                have HRD := Lib.hid (fun (wx : World) (hx : Below W.heap.size W wx) => read_good us most wait wx HM.out.1 HM.out.2.1 HM.out.2.2.1 HM.out.2.2.2 HINV.out.good HSU.out.sorted HINV.out.len (HV2.out wx hx))
                have HPY := Lib.hid (fun (wx wy : World) (hx : Below W.heap.size W wx) (b' mu' mf' nu' nf' : Nat) (D' Df' : DataW Unit) (hs : BookSt wx wy b' mu' mf' most wait nu' nf' D' Df') (hd : SimU D' us) => p_text hs hd HINV.out.ok (by have := HINV.out.len; omega) (HV2.out wx hx))
                obtain ⟨T, hT⟩ : ∃ T, T = textR us := ⟨_, rfl⟩
                rw [← hT] at HPX HRD HPY
                have hne : (T.toList != T.toList) = false := by simp
                clear hT
                go_wp2_with (first
                  | (go_at_call_of 14 (Value.pointer (some ⟨b, 0, none⟩)); refine (HPX.out _ B7.out).mono ?_; rintro e w8 ⟨rfl, b8⟩; have B8 := Lib.hid (B7.out.trans (b8.mono B7.out.size)); clear b8)
                  | (go_at_call_of 14 (Value.pointer (some ⟨b, 0, none⟩)); refine (HPX.out _ (Below.refl _ _)).mono ?_; rintro e w5 ⟨rfl, b5⟩; have B5 := Lib.hid b5; clear b5)
                  | (go_at_call 13; refine (HRD.out _ B5.out).mono ?_; rintro e w6 ⟨b6, cb, cmu, cmf, cnu, cnf, cD, cDf, rfl, cst, csu⟩; have B6 := Lib.hid (B5.out.trans (b6.mono B5.out.size)); have CST := Lib.hid cst; have CSU := Lib.hid csu; clear b6 cst csu)
                  | (go_at_call 14; refine (HPY.out _ _ B5.out _ _ _ _ _ _ _ CST.out CSU.out).mono ?_; rintro e w7 ⟨rfl, b7⟩; have B7 := Lib.hid (B6.out.trans (b7.mono B6.out.size)); clear b7))
                go_meet
                case rel => exact ⟨us, fs, rfl, HBO2.out.mono.keepB B8.out⟩
        case rest =>
          obtain ⟨us', fs', rfl, hbo⟩ := hcut
          obtain ⟨⟨nu, nf, D, Df, hst, hsu, hsf, hnu, hnf⟩, href, hinv⟩ := hbo
          have HPT := Lib.hid (p_text hst hsu hinv.ok (by have := hinv.len; omega) HV.out)
          have HRT := Lib.hid (fun (wx : World) (hb : Below wc.heap.size wc wx) => r_text (href.keep hb) (by have := hinv.len; omega) hinv.ok)
          have HB3 : Hid (Both w wc b mu mf p most wait us' fs' (k + 1)) := ⟨⟨nu, nf, D, Df, hst, hsu, hsf, hnu, hnf⟩, href, hinv⟩
          obtain ⟨T, hT⟩ : ∃ T, T = textR us' := ⟨_, rfl⟩
          rw [← hT] at HPT HRT
          have hne : (T.toList != T.toList) = false := by simp
          clear hst hsu hsf href hinv hT
          go_wp2_with (first
            | (go_at_call 14; refine HPT.out.mono ?_; rintro e w5 ⟨rfl, b5⟩; have B5 := Lib.hid b5; clear b5)
            | (go_at_call 15; refine (HRT.out _ B5.out).mono ?_; rintro e w6 ⟨rfl, b6⟩; have B6 := Lib.hid (B5.out.trans (b6.mono B5.out.size)); clear b6))
          go_roundw
          case rel => exact ⟨k + 1, us', fs', by go_num, by omega, HB3.out.keepB B6.out⟩
          case measure => show 40 - ((k : Int) + 1).toNat < 40 - (k : Int).toNat; omega
      · have d1 : decide ((k : Int) < n) = true := decide_eq_true (by omega)
        have d2 : decide ((k : Int) < 40) = false := decide_eq_false (by omega)
        go_wp2
        go_ret
        exact ⟨rfl, HBW.out⟩
    · have d1 : decide ((k : Int) < n) = false := decide_eq_false (by omega)
      go_wp2
      go_ret
      exact ⟨rfl, HBW.out⟩
end Go.Proofs.YtkgbldkjpohinaaGreatDoor
namespace Go.Proofs.YtkgbldkjpohinaaGreatDoor
open Go.RowKit Go.Maps Go.Sort
set_option linter.unusedVariables false
set_option maxRecDepth 100000 in
theorem p_new_arg (most wait : Int) (w : World) (h : most < 1 ∨ most > 9 ∨ wait < 1 ∨ wait > 1000000) :
    Calls Tryz.prog 4 #[.int .i64 most, .int .i64 wait] w fun e w' => e = .returned (.tuple #[.pointer none, .int .i64 1]) ∧ w' = w := by
  have hc : most < 1 ∨ (¬ most < 1 ∧ most > 9) ∨ (¬ most < 1 ∧ ¬ most > 9 ∧ wait < 1) ∨ (¬ most < 1 ∧ ¬ most > 9 ∧ ¬ wait < 1 ∧ wait > 1000000) := by omega
  clear h
  rcases hc with a | ⟨a, b⟩ | ⟨a, b, c⟩ | ⟨a, b, c, d⟩
  · have d1 : decide (most < 1) = true := decide_eq_true a
    clear a
    go_enter Tryz.func4, Tryz.ntmps4
    go_wp2
    go_ret2
    exact ⟨rfl, rfl⟩
  · have d1 : decide (most < 1) = false := decide_eq_false a
    have d2 : decide (most > 9) = true := decide_eq_true b
    clear a b
    go_enter Tryz.func4, Tryz.ntmps4
    go_wp2
    go_ret2
    exact ⟨rfl, rfl⟩
  · have d1 : decide (most < 1) = false := decide_eq_false a
    have d2 : decide (most > 9) = false := decide_eq_false b
    have d3 : decide (wait < 1) = true := decide_eq_true c
    clear a b c
    go_enter Tryz.func4, Tryz.ntmps4
    go_wp2
    go_ret2
    exact ⟨rfl, rfl⟩
  · have d1 : decide (most < 1) = false := decide_eq_false a
    have d2 : decide (most > 9) = false := decide_eq_false b
    have d3 : decide (wait < 1) = false := decide_eq_false c
    have d4 : decide (wait > 1000000) = true := decide_eq_true d
    clear a b c d
    go_enter Tryz.func4, Tryz.ntmps4
    go_wp2
    go_ret2
    exact ⟨rfl, rfl⟩
set_option maxRecDepth 100000 in
set_option maxHeartbeats 2000000 in
theorem plays_arg (most wait : Int) (v : Value) (n : Nat) (F : Nat → OpV) (w : World) (h : OpsIn w v n F) (hbad : most < 1 ∨ most > 9 ∨ wait < 1 ∨ wait > 1000000) :
    Calls Tryz.prog 3 #[.int .i64 most, .int .i64 wait, v] w fun e w' => e = .returned (.bool true) ∧ Below w.heap.size w w' := by
  obtain ⟨ao, cap, rfl, hnm, hops⟩ := h
  have HN := Lib.hid (p_new_arg most wait w hbad)
  have HNR := Lib.hid (r_new_arg most wait w hbad)
  have HAW := Lib.hid (awake15_any w)
  clear hops hbad
  go_enter Tryz.func3, Tryz.ntmps3
  go_upto_block 0 with (first
    | (go_at_call 4; refine HN.out.mono ?_; rintro e w1 ⟨rfl, rfl⟩)
    | (go_at_call 5; refine HNR.out.mono ?_; rintro e w2 ⟨rfl, rfl⟩)
    | (go_at_call 6; refine HAW.out.mono ?_; rintro e w3 ⟨rfl, hb3⟩; have B3 := Lib.hid hb3; clear hb3))
  go_wp2
  go_loopw [11] (fun i wr => i = .int .i64 0 ∧ wr = w3) (fun _ _ => 0)
  case atStart => exact ⟨rfl, rfl⟩
  case round =>
    obtain ⟨rfl, rfl⟩ := hrel
    have d2 : decide ((0 : Int) < 40) = true := by decide
    by_cases h0 : 0 < n
    · have d1 : decide ((0 : Int) < n) = true := decide_eq_true (by omega)
      go_wp2
      go_ret
      exact ⟨rfl, B3.out⟩
    · have d1 : decide ((0 : Int) < n) = false := decide_eq_false (by omega)
      go_wp2
      go_ret
      exact ⟨rfl, B3.out⟩
theorem plays_all (most wait : Int) (v : Value) (n : Nat) (F : Nat → OpV) (w : World) (h : OpsIn w v n F) (hv : LibV w) :
    Calls Tryz.prog 3 #[.int .i64 most, .int .i64 wait, v] w fun e w' => e = .returned (.bool true) ∧ Below w.heap.size w w' := by
  by_cases hbad : most < 1 ∨ most > 9 ∨ wait < 1 ∨ wait > 1000000
  · exact plays_arg most wait v n F w h hbad
  · exact plays_any most wait v n F w h hv (by omega) (by omega) (by omega) (by omega)
end Go.Proofs.YtkgbldkjpohinaaGreatDoor
