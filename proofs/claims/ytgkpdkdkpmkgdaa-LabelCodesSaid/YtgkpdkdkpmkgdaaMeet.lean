/- label.Meet: what is in both. -/
import Derived.Test.YtgkpdkdkpmkgdaaSome
namespace Go.Proofs.Ytgkpdkdkpmkgdaa
open Go.RowKit
def meetL (la lb : List Int) : List Int := if setL la && setL lb then la.filter (fun x => decide (x ∈ lb)) else []
set_option maxRecDepth 100000 in
set_option maxHeartbeats 800000 in
theorem meet_any (a b : Value) (la lb : List Int) (w : World) (ha : IntsAt w a la) (hb : IntsAt w b lb) (hla : la.length ≤ 17592186043904) (hlb : lb.length ≤ 17592186043904) :
    Calls Try.prog 18 #[a, b] w fun e w' => ∃ v', e = .returned v' ∧ IntsAt w' v' (meetL la lb) ∧ Below w.heap.size w w' := by
  have h1 := set_any a la w ha (by omega)
  have h2 := set_any b lb w hb (by omega)
  have h3 := someIn_any a b la lb w ha hb hla hlb
  obtain ⟨aoa, ca, hva⟩ := ha.shape
  obtain ⟨aob, cb, hvb⟩ := hb.shape
  subst hva hvb
  obtain ⟨sa, hsa⟩ : ∃ s, s = setL la := ⟨_, rfl⟩
  obtain ⟨sb, hsb⟩ : ∃ s, s = setL lb := ⟨_, rfl⟩
  have Hj : Hid (meetL la lb = if sa && sb then la.filter (fun x => decide (x ∈ lb)) else []) := by rw [hsa, hsb]; rfl
  rw [← hsa] at h1
  rw [← hsb] at h2
  obtain ⟨na, hna⟩ : ∃ n, n = la.length := ⟨_, rfl⟩
  obtain ⟨nb, hnb⟩ : ∃ n, n = lb.length := ⟨_, rfl⟩
  rw [← hna] at h1 h3 hla ⊢
  rw [← hnb] at h2 h3 hlb ⊢
  have H2 := Lib.hid h2
  have H3 := Lib.hid h3
  clear hsa hsb ha hb h2 h3 hna hnb
  rcases sa with _ | _
  · go_enter Try.func18, Try.ntmps18
    go_wp2_with (go_at_call 9; refine h1.mono ?_; rintro e w1 ⟨rfl, rfl⟩; replace h1 := H2.out)
    go_ret
    rw [Hj.out]
    exact ⟨_, rfl, IntsAt.nil _, Below.refl _ _⟩
  rcases sb with _ | _
  · go_enter Try.func18, Try.ntmps18
    go_wp2_with (go_at_call 9; refine h1.mono ?_; rintro e w1 ⟨rfl, rfl⟩; replace h1 := H2.out)
    go_ret
    rw [Hj.out]
    exact ⟨_, rfl, IntsAt.nil _, Below.refl _ _⟩
  · go_enter Try.func18, Try.ntmps18
    go_wp2_with (first
      | (go_at_call 9; refine h1.mono ?_; rintro e w1 ⟨rfl, rfl⟩; replace h1 := H2.out)
      | (go_at_call 52; refine H3.out.mono ?_; rintro e w2 ⟨v2, rfl, i2, hb2⟩))
    go_ret
    rw [Hj.out]
    exact ⟨_, rfl, i2, hb2⟩
end Go.Proofs.Ytgkpdkdkpmkgdaa
