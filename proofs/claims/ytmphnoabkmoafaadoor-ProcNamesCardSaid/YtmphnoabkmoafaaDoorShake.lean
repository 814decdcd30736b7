/- A table beside which whole numbers are written: it is the same table, but for what its slices hold. -/
import Derived.Test.YtmphnoabkmoafaaDoorStrs
namespace Go.Proofs.YtmphnoabkmoafaaDoor
open Go.RowKit Go.Maps
set_option linter.unusedVariables false
/-- Blocks of whole numbers stay such. -/
def Ints3 (w w' : World) : Prop := ∀ (g : Nat) (cur : Array Value), w.heap[g]? = some (.cells cur 3 (0, 0)) → ∃ cur', w'.heap[g]? = some (.cells cur' 3 (0, 0)) ∧ ∀ (j : Nat) (n : Int), cur[j]? = some (.int .i64 n) → ∃ n', cur'[j]? = some (.int .i64 n')
theorem IntsAt.shake {w w' : World} {v : Value} {l : List Int} (h : IntsAt w v l) (k : Ints3 w w') : ∃ l', IntsAt w' v l' ∧ l'.length = l.length := by
  rcases h with h | ⟨b, off, c, hv, h0, hc, ⟨hlt, cur, hcur⟩, hcell⟩
  · exact ⟨l, .inl h, rfl⟩
  · obtain ⟨cur', hcur', hk⟩ := k b cur hcur
    have hex : ∀ j, j < l.length → ∃ n', cur'[off + j]? = some (.int .i64 n') := fun j hj => by
      have := hcell j hj
      rw [cell_of_row w b (off + j) _ 3 (0, 0) hcur] at this
      exact hk _ _ this
    obtain ⟨F, hF⟩ : ∃ F : Nat → Int, ∀ j, j < l.length → cur'[off + j]? = some (.int .i64 (F j)) := by
      refine ⟨fun j => match cur'[off + j]? with | some (.int .i64 n) => n | _ => 0, fun j hj => ?_⟩
      obtain ⟨n', e⟩ := hex j hj
      simp only [e]
    refine ⟨(List.range l.length).map F, .inr ⟨b, off, c, by rw [hv]; simp, by simpa using h0, by simpa using hc, ⟨(Array.getElem?_eq_some_iff.1 hcur').1, cur', hcur'⟩, fun j hj => ?_⟩, by simp⟩
    have hj' : j < l.length := by simpa using hj
    rw [cell_of_row w' b (off + j) _ 3 (0, 0) hcur', hF j hj']
    simp [List.getD, hj']
/-- The same process, but for what its slices hold. -/
structure Alike (p q : PR) : Prop where
  id : q.id = p.id
  par : q.par = p.par
  share : q.share = p.share
  status : q.status = p.status
  exited : q.exited = p.exited
  forks : q.forks = p.forks
  tags : q.tags = p.tags
  mask : q.mask = p.mask
  pending : q.pending = p.pending
  lS : q.S.length = p.S.length
  lI : q.I.length = p.I.length
  lP : q.Plus.length = p.Plus.length
  lM : q.Minus.length = p.Minus.length
theorem TabAt.shake {w w' : World} {B T M : Nat} {bl : ByteArray → Nat} {L : List PR} (h : TabAt w B T M bl L) (k : Ints3 w w') (ho : ∀ q, q < w.heap.size → (∀ cs, w.heap[q]? ≠ some (.cells cs 3 (0, 0))) → w'.heap[q]? = w.heap[q]?) :
    ∃ f : PR → PR, (∀ p ∈ L, Alike p (f p)) ∧ TabAt w' B T M bl (L.map f) := by
  have hex : ∀ p : PR, ∃ p' : PR, p ∈ L → Alike p p' ∧ ∃ vS vI vP vM, ProcAt w' (bl p.id) p' vS vI vP vM := fun p => by
    by_cases hp : p ∈ L
    · obtain ⟨vS, vI, vP, vM, hh⟩ := h.procs p hp
      obtain ⟨lS, iS, eS⟩ := hh.hS.shake k
      obtain ⟨lI, iI, eI⟩ := hh.hI.shake k
      obtain ⟨lP, iP, eP⟩ := hh.hP.shake k
      obtain ⟨lM, iM, eM⟩ := hh.hM.shake k
      refine ⟨{ p with S := lS, I := lI, Plus := lP, Minus := lM }, fun _ => ⟨⟨rfl, rfl, rfl, rfl, rfl, rfl, rfl, rfl, rfl, eS, eI, eP, eM⟩, vS, vI, vP, vM, ?_, iS, iI, iP, iM⟩⟩
      exact (ho _ (h.ltP hp) (fun cs e => by rw [hh.row] at e; cases e)).trans hh.row
    · exact ⟨p, fun h => absurd h hp⟩
  obtain ⟨f, hf⟩ := Classical.axiomOfChoice hex
  refine ⟨f, fun p hp => (hf p hp).1, ?_, ?_, ?_, ?_, h.lowT, h.lowM, ?_⟩
  · rw [ho T h.ltT (fun cs e => by rw [h.tab] at e; cases e)]; exact h.tab
  · have e1 : encT bl (L.map f) = encT bl L := by
      unfold encT encP
      rw [List.map_map]
      congr 1
      apply List.map_congr_left
      intro p hp
      show (keyL (f p).id, _) = _
      rw [(hf p hp).1.id]
    rw [e1, List.length_map]
    obtain ⟨es, clock, hb, r⟩ := h.map
    exact ⟨es, clock, by rw [ho M (Array.getElem?_eq_some_iff.1 hb).1 (fun cs e => by rw [hb] at e; cases e)]; exact hb, r⟩
  · intro q hq
    obtain ⟨p, hp, rfl⟩ := List.mem_map.1 hq
    rw [(hf p hp).1.id]
    exact (hf p hp).2
  · intro q hq r hr e
    obtain ⟨p, hp, rfl⟩ := List.mem_map.1 hq
    obtain ⟨p2, hp2, rfl⟩ := List.mem_map.1 hr
    rw [(hf p hp).1.id, (hf p2 hp2).1.id] at *
    exact h.inj p hp p2 hp2 e
  · intro q hq
    obtain ⟨p, hp, rfl⟩ := List.mem_map.1 hq
    rw [(hf p hp).1.id]
    exact h.lowP p hp
end Go.Proofs.YtmphnoabkmoafaaDoor
