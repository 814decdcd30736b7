/- lazaretref2.Unhex reads digits. -/
import Derived.Test.YtdhdapnmjlklaaaUnhex
namespace Go.Proofs.Ytdhdapnmjlklaaa
open Go.RowKit
/-- The place among the first k digits. -/
def seek (c : Int) : Nat → Int
  | 0 => -1
  | k + 1 => if hexd k = c then k else seek c k
theorem seek_all : ∀ c : Fin 256, seek (c.val : Int) 16 = (digv (c.val : Int)).getD (-1) := by decide +kernel
theorem seek_digv (c : Int) (h0 : 0 ≤ c) (h1 : c < 256) : seek c 16 = (digv c).getD (-1) := by
  have := seek_all ⟨c.toNat, by omega⟩
  simpa only [Int.toNat_of_nonneg h0] using this
theorem seek_bound (c : Int) (k : Nat) : -1 ≤ seek c k ∧ seek c k < k := by
  induction k with
  | zero => simp [seek]
  | succ k ih => rw [seek]; split <;> omega
theorem run_hexd_nat {P : Program} (hu : P.underlying 9 = some .string) (k : Nat) (h1 : k < 16) (w : World) : (Instr.index 9 (.string hexs) (.int .i64 (k : Int))).run P w = .ok (.int .u8 (hexd k)) w := by
  have e : hexs[k]? = some (UInt8.ofNat (hexd k).toNat) := by
    match k, h1 with
    | 0, _ | 1, _ | 2, _ | 3, _ | 4, _ | 5, _ | 6, _ | 7, _ | 8, _ | 9, _ | 10, _ | 11, _ | 12, _ | 13, _ | 14, _ | 15, _ => rfl
    | n + 16, h => omega
  have e2 : 0 ≤ hexd k ∧ hexd k < 256 := by unfold hexd; split <;> omega
  simp [Instr.index, run_underlying hu, asIntOf, e]
  omega
/-- What is read of the first k digits. -/
def PartOf (l : List Int) (k : Nat) (out : List Int) : Prop :=
  (k % 2 = 0 ∧ unhexL (l.take k) = some out) ∨ ∃ o x, k % 2 = 1 ∧ unhexL (l.take (k - 1)) = some o ∧ digv (l.getD (k - 1) 0) = some x ∧ out = o ++ [16 * x]
theorem PartOf.even {l out : List Int} {k : Nat} {x : Int} (h : PartOf l k out) (hk : k % 2 = 0) (hd : digv (l.getD k 0) = some x) : PartOf l (k + 1) (out ++ [16 * x]) := by
  rcases h with ⟨_, h⟩ | ⟨_, _, h, _⟩
  · exact .inr ⟨out, x, by omega, h, hd, rfl⟩
  · omega
theorem PartOf.len {l out : List Int} {k : Nat} (h : PartOf l k out) (hk : k ≤ l.length) : out.length = (k + 1) / 2 := by
  rcases h with ⟨h0, h⟩ | ⟨o, x, h0, h, _, rfl⟩
  · have := unhexL_len _ _ h
    rw [List.length_take] at this
    omega
  · have := unhexL_len _ _ h
    rw [List.length_take] at this
    rw [List.length_append, List.length_singleton]
    omega
theorem PartOf.odd {l out : List Int} {k : Nat} {y : Int} (h : PartOf l k out) (hk : k % 2 = 1) (hl : k < l.length) (hd : digv (l.getD k 0) = some y) :
    ∃ x, 0 ≤ x ∧ x < 16 ∧ out.getD (k / 2) 0 = 16 * x ∧ PartOf l (k + 1) (out.set (k / 2) (16 * x + y)) := by
  have hlen := h.len (by omega)
  rcases h with ⟨h0, h⟩ | ⟨o, x, h0, h, hx, rfl⟩
  · omega
  · have hb := digv_bound hx
    rw [List.length_append, List.length_singleton] at hlen
    have ho : o.length = k / 2 := by omega
    refine ⟨x, hb.1, hb.2, by rw [← ho]; simp [List.getD], .inl ⟨by omega, ?_⟩⟩
    obtain ⟨m, rfl⟩ : ∃ m, k = 2 * m + 1 := ⟨k / 2, by omega⟩
    rw [← ho, show 2 * m + 1 + 1 = 2 * (m + 1) by omega, unhexL_step (x := x) (y := y) (by simpa using h) (by omega) (by simpa using hx) hd]
    simp
theorem PartOf.fails {l out : List Int} {k : Nat} (h : PartOf l k out) (he : l.length % 2 = 0) (hl : k < l.length) (hd : digv (l.getD k 0) = none) : unhexL l = none := by
  rcases h with ⟨h0, h⟩ | ⟨o, x, h0, h, _, _⟩
  · obtain ⟨m, rfl⟩ : ∃ m, k = 2 * m := ⟨k / 2, by omega⟩
    exact unhexL_fails h (by omega) (.inl hd)
  · obtain ⟨m, rfl⟩ : ∃ m, k = 2 * m + 1 := ⟨k / 2, by omega⟩
    exact unhexL_fails (by simpa using h) (by omega) (.inr hd)
theorem PartOf.done {l out : List Int} (h : PartOf l l.length out) (he : l.length % 2 = 0) : unhexL l = some out := by
  rcases h with ⟨_, h⟩ | ⟨_, _, h, _⟩
  · simpa using h
  · omega
theorem octets_set (l : List Int) (j : Nat) (v : Int) : (octets l).set j (.int .u8 v) = octets (l.set j v) := by simp [octets]
theorem octets_at {l : List Int} {j : Nat} (h : j < l.length) : (octets l)[j]? = some (.int .u8 (l.getD j 0)) := by simp [octets, List.getD, h]
set_option maxRecDepth 100000 in
set_option maxHeartbeats 1000000 in
theorem refunhex_any (s : ByteArray) (w : World) (hs : s.size ≤ 281474976710656) :
    Calls Try.prog 17 #[.string s] w fun e w' => ∃ v, e = .returned (.tuple #[v, .bool (unhexL (bytesOf s)).isSome]) ∧ BytesAt w' v ((unhexL (bytesOf s)).getD []) ∧ Below w.heap.size w w' := by
  obtain ⟨i0, hi, hz0, hz1, hz2⟩ := info_parts info5
  by_cases hodd : s.size % 2 = 0
  · go_enter Try.func17, Try.ntmps17
    have ho : ((s.size : Int) % 2 == 1) = false := by simp; omega
    go_wp2
    go_loopw [4, 5] (fun u i wr => ∃ k : Nat, k ≤ s.size ∧ i = .int .i64 k ∧ ∃ out, PartOf (bytesOf s) k out ∧ wr.ownsRow w.heap.size 5 1 u ((k + 1) / 2) (octets out) ∧ Below w.heap.size w wr) (fun _ i _ => (s.size - intOf i).toNat)
    case atStart => exact ⟨0, by omega, rfl, [], .inl ⟨rfl, rfl⟩, World.ownsRow_made w #[] 0 (Nat.le_refl _) (by decide) rfl, (Below.refl _ _).alloc (Nat.le_refl _) _⟩
    case round =>
      obtain ⟨k, hk, rfl, out, hout, hown, hb⟩ := hrel
      obtain ⟨ao3, c3, rfl, hc3, _⟩ := owns_shape hown
      by_cases hlt : k < s.size
      · obtain ⟨x, hx⟩ : ∃ x, x = (bytesOf s).getD k 0 := ⟨_, rfl⟩
        have hxb := (bytesOf_octs s).getD k
        rw [← hx] at hxb
        have Hx := Lib.hid hx
        have Hout := Lib.hid hout
        clear hx hout
        go_wp2
        go_loopw [6, 7] (fun u i w9 => ∃ d : Nat, d ≤ 16 ∧ i = .int .i64 d ∧ u = .int .i64 (seek x d) ∧ ∃ m, w9 = wr.drewN m) (fun _ i _ => 16 - (intOf i).toNat)
        case atStart => exact ⟨0, by omega, rfl, rfl, 0, rfl⟩
        case round =>
          obtain ⟨d, hd, rfl, rfl, m, rfl⟩ := hrel
          have hsb := seek_bound x d
          by_cases hlt16 : d < 16
          · have q1 := run_hexd_nat (P := Try.prog) und9 d hlt16
            simp only [hexs] at q1
            have q2 : ∀ w0, (Instr.index 9 (.string s) (.int .i64 (k : Int))).run Try.prog w0 = .ok (.int .u8 x) w0 := fun w0 => by
              rw [Hx.out]
              exact run_index_byte w0 und9 s k hlt
            by_cases heq : hexd d = x
            · have q3 : (hexd d == x) = true := by simp [heq]
              have Hs : Hid (seek x (d + 1) = d) := by show seek x (d + 1) = d; rw [seek, if_pos heq]
              clear heq
              go_wp2
              go_quiet (fail)
              go_wp2
              go_roundw
              case rel => exact ⟨d + 1, by omega, by go_num, by rw [Hs.out], _, rfl⟩
              case measure => first | (simp [intOf]; done) | (simp [intOf]; omega)
            · have q3 : (hexd d == x) = false := by simp [heq]
              have Hs : Hid (seek x (d + 1) = seek x d) := by show seek x (d + 1) = _; rw [seek, if_neg heq]
              clear heq
              go_wp2
              go_quiet (fail)
              go_wp2
              go_roundw
              case rel => exact ⟨d + 1, by omega, by go_num, by rw [Hs.out], _, rfl⟩
              case measure => first | (simp [intOf]; done) | (simp [intOf]; omega)
          · obtain rfl : d = 16 := by omega
            rw [seek_digv x (by omega) (by omega)]
            have hb' : Below w.heap.size w (wr.drewN m) := ⟨hb.os, hb.tape, hb.output, hb.size, hb.block⟩
            have hown' : (wr.drewN m).ownsRow w.heap.size 5 1 (.slice ao3 ((k + 1) / 2) c3) ((k + 1) / 2) (octets out) := hown
            rcases hex : digv x with _ | p
            · have Hn := Lib.hid (Hout.out.fails (by rw [bytesOf_length]; exact hodd) (by rw [bytesOf_length]; exact hlt) (by rw [← Hx.out]; exact hex))
              clear hex
              simp only [Option.getD_none]
              go_wp2
              go_ret2
              rw [Hn.out]
              exact ⟨_, rfl, BytesAt.nil _, hb'⟩
            · have hp := digv_bound hex
              simp only [Option.getD_some]
              by_cases hev : k % 2 = 0
              · have Hs := Lib.hid (Hout.out.even hev (by rw [← Hx.out]; exact hex))
                have hev' : ((k : Int) % 2 == 0) = true := by simp; omega
                clear hex
                have hk2 : (k + 1) / 2 = k / 2 := by omega
                go_wp2_with ((with_reducible show wpList _ _ _ (⟨some 40, _, _, _, _, _⟩ :: _) _ _); go_must (refine wpList_append_bytes rfl _ _ 23 rfl w.heap.size 5 i0 (.int .u8 0) und23 hi hz0 hz1 hz2 rfl _ _ out [16 * p] rfl (hown'.alloc _) _ rfl (BytesAt.new (wr.drewN m) 5 _ (by simp)) (by simp; omega) (by have := hb.size; simp; omega) ?_; intro v8 w8 hown8 hg8 hn8; simp only [Act.put, List.setIfInBounds_toArray, List.set_cons_zero, List.set_cons_succ]))
                go_roundw
                case rel =>
                  refine ⟨k + 1, by omega, by go_num, _, Hs.out, ?_, ?_⟩
                  · rw [show (k + 1 + 1) / 2 = (k + 1) / 2 + 1 by omega]; exact hown8
                  · exact (hb'.alloc hb'.size _).grown hg8 (by have := hb.size; simp; omega) (fun k hk => (hown.lt k hk).1)
                case measure => first | (simp [intOf]; done) | (simp [intOf]; omega)
              · obtain ⟨x0, p0, p1, hat, hs⟩ := Hout.out.odd (by omega) (by rw [bytesOf_length]; exact hlt) (by rw [← Hx.out]; exact hex)
                have hol := Hout.out.len (by rw [bytesOf_length]; omega)
                have hev' : ((k : Int) % 2 == 0) = false := by simp; omega
                rcases hown'.2 with ⟨_, h0⟩ | ⟨g, cap, cur, hv, hgb, hg, hnc, hcm, hcs, htake⟩
                · omega
                · obtain ⟨rfl, rfl⟩ : ao3 = some ⟨g, 0, none⟩ ∧ c3 = cap := by simpa using hv
                  have c0 : (wr.drewN m).cell? ⟨g, k / 2, none⟩ = some (.int .u8 (16 * x0)) := by rw [hown'.cellAt (k / 2) (by omega), octets_at (by omega), hat]
                  have f0 := hown'.frozenAt (k / 2)
                  have hst := hown'.stored (k / 2) (.int .u8 (16 * x0 + p))
                  rw [octets_set] at hst
                  have Hs := Lib.hid hs
                  have Hst := Lib.hid hst
                  have hq : ((k : Int) / 2).toNat = k / 2 := by omega
                  clear hex hat hst hs hol hv hg htake
                  go_wp2
                  go_roundw
                  case rel =>
                    refine ⟨k + 1, by omega, by go_num, _, Hs.out, ?_, ?_⟩
                    · rw [show (k + 1 + 1) / 2 = (k + 1) / 2 by omega]; exact Hst.out.1
                    · exact hb'.setCell hgb _
                  case measure => first | (simp [intOf]; done) | (simp [intOf]; omega)
      · obtain rfl : k = s.size := by omega
        have hd : unhexL (bytesOf s) = some out := PartOf.done (by rw [bytesOf_length]; exact hout) (by rw [bytesOf_length]; exact hodd)
        have Hd := Lib.hid hd
        clear hd hout
        go_wp2
        go_ret2
        rw [Hd.out]
        exact ⟨_, rfl, BytesAt.of_owns hown, hb⟩
  · go_enter Try.func17, Try.ntmps17
    have ho : ((s.size : Int) % 2 == 1) = true := by simp; omega
    go_wp2
    go_ret2
    rw [unhexL_odd (bytesOf s) (by rw [bytesOf_length]; omega)]
    exact ⟨_, rfl, BytesAt.nil _, Below.refl _ _⟩
end Go.Proofs.Ytdhdapnmjlklaaa
