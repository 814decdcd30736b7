/- The book's state, as one thing, and the calls over it; the law's own awake answers true. -/
import Derived.Test.YtkgbldkjpohinaaGreatDoorBookWrong
import Derived.Test.YtkgbldkjpohinaaGreatDoorShaXY
namespace Go.Proofs.YtkgbldkjpohinaaGreatDoor
open Go.RowKit Go.Maps
structure BookSt (w0 w : World) (b mu mf : Nat) (tries wait : Int) (nu nf : Nat) (Du Df : DataW Unit) : Prop where
  at_ : BookAt w b tries wait mu mf
  hu : w.ownsMap Tryz.prog 9 readU mu nu Du
  hf : w.ownsMap Tryz.prog 9 readF mf nf Df
  below : Below w0.heap.size w0 w
  o1 : w0.heap.size ≤ mu
  o2 : mu < mf
  o3 : mf < b
section
variable {w0 w w' : World} {b mu mf : Nat} {tries wait : Int} {nu nf : Nat} {Du Df : DataW Unit}
theorem BookSt.keep (h : BookSt w0 w b mu mf tries wait nu nf Du Df) (hb : Below w.heap.size w w') : BookSt w0 w' b mu mf tries wait nu nf Du Df :=
  ⟨by have := h.at_; unfold BookAt at this ⊢; rw [← this]; exact hb.block b (Array.getElem?_eq_some_iff.1 h.at_).1, ownsMap_below h.hu hb h.hu.lt, ownsMap_below h.hf hb h.hf.lt, h.below.trans (hb.mono h.below.size), h.o1, h.o2, h.o3⟩
theorem BookSt.grownU {Du' : DataW Unit} {nu' : Nat} (h : BookSt w0 w b mu mf tries wait nu nf Du Df) (hown : w'.ownsMap Tryz.prog 9 readU mu nu' Du') (hg : w.grownBy w' (some mu)) : BookSt w0 w' b mu mf tries wait nu' nf Du' Df := by
  have h2 := h.o2
  have h3 := h.o3
  exact ⟨by have := h.at_; unfold BookAt at this ⊢; rw [← this]; exact hg.block b (Array.getElem?_eq_some_iff.1 h.at_).1 (by simp; omega), hown, h.hf.kept hg (by simp; omega), h.below.grown hg h.below.size (fun k hk => by cases hk; exact h.o1), h.o1, h.o2, h.o3⟩
theorem BookSt.grownF {Df' : DataW Unit} {nf' : Nat} (h : BookSt w0 w b mu mf tries wait nu nf Du Df) (hown : w'.ownsMap Tryz.prog 9 readF mf nf' Df') (hg : w.grownBy w' (some mf)) : BookSt w0 w' b mu mf tries wait nu nf' Du Df' := by
  have h2 := h.o2
  have h3 := h.o3
  have h1 := h.o1
  exact ⟨by have := h.at_; unfold BookAt at this ⊢; rw [← this]; exact hg.block b (Array.getElem?_eq_some_iff.1 h.at_).1 (by simp; omega), h.hu.kept hg (by simp; omega), hown, h.below.grown hg h.below.size (fun k hk => by cases hk; omega), h.o1, h.o2, h.o3⟩
theorem st_new (tries wait : Int) (w : World) (h0 : 1 ≤ tries) (h1 : tries ≤ 9) (h2 : 1 ≤ wait) (h3 : wait ≤ 1000000) :
    Calls Tryz.prog 4 #[.int .i64 tries, .int .i64 wait] w fun e w' => ∃ b mu mf : Nat, e = .returned (.tuple #[.pointer (some ⟨b, 0, none⟩), .int .i64 0]) ∧ BookSt w w' b mu mf tries wait 0 0 (.map []) (.map []) := by
  refine (new_any tries wait w h0 h1 h2 h3).mono ?_
  rintro e w' ⟨b, mu, mf, rfl, k1, k2, k3, k4, k5, k6, k7⟩
  exact ⟨b, mu, mf, rfl, k1, k2, k3, k7, k4, k5, k6⟩
theorem st_add (name salt text : ByteArray) (steps id : Int) (h : BookSt w0 w b mu mf tries wait nu nf Du Df) (hnu : nu < 1000000)
    (hl : Lows name) (h1 : 1 ≤ name.size) (h2 : name.size ≤ 16) (sl : Lows salt) (s1 : 1 ≤ salt.size) (s2 : salt.size ≤ 16) (ht : text.size ≤ 64) (a0 : 0 ≤ steps) (a1 : steps ≤ 100) (i0 : 1 ≤ id) (i1 : id ≤ 2147483647) :
    Calls Tryz.prog 7 #[.pointer (some ⟨b, 0, none⟩), .string name, .string salt, .string text, .int .i64 steps, .int .i64 id] w fun e w' => e = .returned (.int .i64 (addCode Du name)) ∧ BookSt w0 w' b mu mf tries wait (nu + 1) nf (addTo Du name salt text steps id) Df := by
  refine (add_any b mu mf nu Du tries wait name salt text steps id w h.at_ h.hu hnu hl h1 h2 sl s1 s2 ht a0 a1 i0 i1).mono ?_
  rintro e w' ⟨rfl, k1, k2⟩
  exact ⟨rfl, h.grownU k1 k2⟩
theorem st_right (name text : ByteArray) (now : Int) (p q : ByteArray) (tt i c t : Int) (h : BookSt w0 w b mu mf tries wait nu nf Du Df)
    (hn : name.size ≤ maxLen) (ht : text.size ≤ 64) (h0 : 0 ≤ now) (hU : Maps.has Du (.string name.data.toList) = true) (hatU : Du.atKey (.string name.data.toList) noU = entD p tt q i) (hatF : Df.atKey (.string name.data.toList) noF = failD c t) (hps : p.size ≤ 16) (hq : hashOf p text tt = q) (hc : c < tries) :
    Calls Tryz.prog 9 #[.pointer (some ⟨b, 0, none⟩), .string name, .string text, .int .i64 now] w fun e w' => e = .returned (.tuple #[.int .i64 i, .int .i64 0]) ∧ BookSt w0 w' b mu mf tries wait nu nf Du (Df.del (.string name.data.toList)) := by
  refine (try_right b mu mf nu nf Du Df tries wait name text now p q tt i c t w h.at_ h.hu h.hf hn ht h0 hU hatU hatF hps hq hc).mono ?_
  rintro e w' ⟨rfl, k1, k2⟩
  exact ⟨rfl, h.grownF k1 k2⟩
theorem st_free (name text : ByteArray) (now : Int) (p q : ByteArray) (tt i c t : Int) (h : BookSt w0 w b mu mf tries wait nu nf Du Df)
    (hn : name.size ≤ maxLen) (ht : text.size ≤ 64) (h0 : 0 ≤ now) (hU : Maps.has Du (.string name.data.toList) = true) (hatU : Du.atKey (.string name.data.toList) noU = entD p tt q i) (hatF : Df.atKey (.string name.data.toList) noF = failD c t) (hps : p.size ≤ 16) (hq : hashOf p text tt = q) (hc : tries ≤ c) (hw : wait ≤ now - t) (hr1 : -9223372036854775808 ≤ now - t) (hr2 : now - t ≤ 9223372036854775807) :
    Calls Tryz.prog 9 #[.pointer (some ⟨b, 0, none⟩), .string name, .string text, .int .i64 now] w fun e w' => e = .returned (.tuple #[.int .i64 i, .int .i64 0]) ∧ BookSt w0 w' b mu mf tries wait nu nf Du (Df.del (.string name.data.toList)) := by
  refine (try_free b mu mf nu nf Du Df tries wait name text now p q tt i c t w h.at_ h.hu h.hf hn ht h0 hU hatU hatF hps hq hc hw hr1 hr2).mono ?_
  rintro e w' ⟨rfl, k1, k2⟩
  exact ⟨rfl, h.grownF k1 k2⟩
theorem st_locked (name text : ByteArray) (now : Int) (p q : ByteArray) (tt i c t : Int) (h : BookSt w0 w b mu mf tries wait nu nf Du Df)
    (hn : name.size ≤ maxLen) (ht : text.size ≤ 64) (h0 : 0 ≤ now) (hatU : Du.atKey (.string name.data.toList) noU = entD p tt q i) (hatF : Df.atKey (.string name.data.toList) noF = failD c t) (hc : tries ≤ c) (hw : now - t < wait) (hr1 : -9223372036854775808 ≤ now - t) (hr2 : now - t ≤ 9223372036854775807) :
    Calls Tryz.prog 9 #[.pointer (some ⟨b, 0, none⟩), .string name, .string text, .int .i64 now] w fun e w' => e = .returned (.tuple #[.int .i64 0, .int .i64 80]) ∧ BookSt w0 w' b mu mf tries wait nu nf Du Df := by
  refine (try_locked b mu mf nu nf Du Df tries wait name text now p q tt i c t w h.at_ h.hu h.hf hn ht h0 hatU hatF hc hw hr1 hr2).mono ?_
  rintro e w' ⟨rfl, k1⟩
  exact ⟨rfl, h.keep k1⟩
theorem st_wrong (name text : ByteArray) (now : Int) (p q : ByteArray) (tt i c t : Int) (h : BookSt w0 w b mu mf tries wait nu nf Du Df)
    (hn : name.size ≤ maxLen) (ht : text.size ≤ 64) (h0 : 0 ≤ now) (hU : Maps.has Du (.string name.data.toList) = true) (hatU : Du.atKey (.string name.data.toList) noU = entD p tt q i) (hatF : Df.atKey (.string name.data.toList) noF = failD c t) (hps : p.size ≤ 16) (hq : hashOf p text tt ≠ q) (hc : c < tries) (hcr : 0 ≤ c ∧ c < 1000) (hnf : nf < 1000000) :
    Calls Tryz.prog 9 #[.pointer (some ⟨b, 0, none⟩), .string name, .string text, .int .i64 now] w fun e w' => e = .returned (.tuple #[.int .i64 0, .int .i64 79]) ∧ BookSt w0 w' b mu mf tries wait nu (nf + 1) Du (Df.put (.string name.data.toList) (failD (c + 1) now)) := by
  refine (try_wrong b mu mf nu nf Du Df tries wait name text now p q tt i c t w h.at_ h.hu h.hf hn ht h0 hU hatU hatF hps hq hc hcr hnf).mono ?_
  rintro e w' ⟨rfl, k1, k2⟩
  exact ⟨rfl, h.grownF k1 k2⟩
theorem st_none (name text : ByteArray) (now : Int) (h : BookSt w0 w b mu mf tries wait nu nf Du Df)
    (hn : name.size ≤ maxLen) (ht : text.size ≤ 64) (h0 : 0 ≤ now) (hU : Maps.has Du (.string name.data.toList) = false) (hF : Maps.has Df (.string name.data.toList) = false) (hc : 0 < tries) (hnf : nf < 1000000) (hsz : Maps.size Df < 9) :
    Calls Tryz.prog 9 #[.pointer (some ⟨b, 0, none⟩), .string name, .string text, .int .i64 now] w fun e w' => e = .returned (.tuple #[.int .i64 0, .int .i64 79]) ∧ BookSt w0 w' b mu mf tries wait nu (nf + 1) Du (Df.put (.string name.data.toList) (failD 1 now)) := by
  refine (try_none b mu mf nu nf Du Df tries wait name text now _ _ _ _ 0 0 w h.at_ h.hu h.hf hn ht h0 hU hF (atKey_of_not_has hU noU) (atKey_of_not_has hF noF) hc (by omega) hnf hsz).mono ?_
  rintro e w' ⟨rfl, k1, k2⟩
  exact ⟨rfl, h.grownF k1 k2⟩
end
end Go.Proofs.YtkgbldkjpohinaaGreatDoor
