/- SHA-256 as plain Lean over whole numbers, in the spelling of the machine's own operations. No program in sight. -/
import Derived.Laws.Entries
namespace Go.Proofs.YtkgbldkjpohinaaGreatDoor

def rotr (x n : Int) : Int := bits .or .u32 (x / 2 ^ n.toNat) ((x * 2 ^ (32 - n).toNat) % 4294967296)
def k64 : List Int := [1116352408, 1899447441, 3049323471, 3921009573, 961987163, 1508970993, 2453635748, 2870763221, 3624381080, 310598401, 607225278, 1426881987, 1925078388, 2162078206, 2614888103, 3248222580, 3835390401, 4022224774, 264347078, 604807628, 770255983, 1249150122, 1555081692, 1996064986, 2554220882, 2821834349, 2952996808, 3210313671, 3336571891, 3584528711, 113926993, 338241895, 666307205, 773529912, 1294757372, 1396182291, 1695183700, 1986661051, 2177026350, 2456956037, 2730485921, 2820302411, 3259730800, 3345764771, 3516065817, 3600352804, 4094571909, 275423344, 430227734, 506948616, 659060556, 883997877, 958139571, 1322822218, 1537002063, 1747873779, 1955562222, 2024104815, 2227730452, 2361852424, 2428436474, 2756734187, 3204031479, 3329325298]
def h8 : List Int := [1779033703, 3144134277, 1013904242, 2773480762, 1359893119, 2600822924, 528734635, 1541459225]

/-- The word at place k of a block p of 64 bytes. -/
def wword (p : Nat → Int) (k : Nat) : Int :=
  bits .or .u32 (bits .or .u32 (bits .or .u32 (p (4 * k) * 16777216) (p (4 * k + 1) * 65536)) (p (4 * k + 2) * 256)) (p (4 * k + 3))
/-- The word behind k words (16 ≤ k). -/
def wnext (l : List Int) (k : Nat) : Int :=
  (l.getD (k - 16) 0 + bits .xor .u32 (bits .xor .u32 (rotr (l.getD (k - 15) 0) 7) (rotr (l.getD (k - 15) 0) 18)) (l.getD (k - 15) 0 / 8) + l.getD (k - 7) 0 +
    bits .xor .u32 (bits .xor .u32 (rotr (l.getD (k - 2) 0) 17) (rotr (l.getD (k - 2) 0) 19)) (l.getD (k - 2) 0 / 1024)) % 4294967296
/-- The first k words of the schedule of block p. -/
def wpre (p : Nat → Int) : Nat → List Int
  | 0 => []
  | k + 1 => wpre p k ++ [if k < 16 then wword p k else wnext (wpre p k) k]
/-- One round. -/
def rnd (kx wx : Int) : List Int → List Int
  | [a, b, c, d, e, f, g, hh] =>
    [(hh + bits .xor .u32 (bits .xor .u32 (rotr e 6) (rotr e 11)) (rotr e 25) + bits .xor .u32 (bits .and .u32 e f) (bits .and .u32 (bits .xor .u32 IntKind.u32.max e) g) + kx + wx +
        (bits .xor .u32 (bits .xor .u32 (rotr a 2) (rotr a 13)) (rotr a 22) + bits .xor .u32 (bits .xor .u32 (bits .and .u32 a b) (bits .and .u32 a c)) (bits .and .u32 b c))) % 4294967296,
      a, b, c,
      (d + (hh + bits .xor .u32 (bits .xor .u32 (rotr e 6) (rotr e 11)) (rotr e 25) + bits .xor .u32 (bits .and .u32 e f) (bits .and .u32 (bits .xor .u32 IntKind.u32.max e) g) + kx + wx)) % 4294967296,
      e, f, g]
  | s => s
def rounds (W h : List Int) : Nat → List Int
  | 0 => h
  | k + 1 => rnd (k64.getD k 0) (W.getD k 0) (rounds W h k)
/-- The first k words of s are added to those of h. -/
def addk (h s : List Int) : Nat → List Int
  | 0 => h
  | k + 1 => (addk h s k).set k (((addk h s k).getD k 0 + s.getD k 0) % 4294967296)
/-- A block taken into a state. -/
def mixL (h : List Int) (p : Nat → Int) : List Int := addk h (rounds (wpre p 64) h 64) 8

theorem getD_take (l : List Int) (k j : Nat) (h : j < k) : (l.take k).getD j 0 = l.getD j 0 := by
  simp [List.getD, h]
theorem wnext_take (l : List Int) (k : Nat) (h : 16 ≤ k) : wnext (l.take k) k = wnext l k := by
  unfold wnext
  rw [getD_take l k _ (by omega), getD_take l k _ (by omega), getD_take l k _ (by omega), getD_take l k _ (by omega)]
theorem eight {l : List Int} (h : l.length = 8) : ∃ a b c d e f g hh, l = [a, b, c, d, e, f, g, hh] := by
  match l, h with
  | [a, b, c, d, e, f, g, hh], _ => exact ⟨a, b, c, d, e, f, g, hh, rfl⟩
theorem rnd_length {l : List Int} (kx wx : Int) (h : l.length = 8) : (rnd kx wx l).length = 8 := by
  obtain ⟨a, b, c, d, e, f, g, hh, rfl⟩ := eight h
  rfl
theorem rounds_length (W : List Int) {h : List Int} (hl : h.length = 8) (k : Nat) : (rounds W h k).length = 8 := by
  induction k with
  | zero => exact hl
  | succ k ih => exact rnd_length _ _ ih
theorem addk_length (h s : List Int) (k : Nat) : (addk h s k).length = h.length := by
  induction k with
  | zero => rfl
  | succ k ih => simp only [addk, List.length_set, ih]
theorem mixL_length {h : List Int} (hl : h.length = 8) (p : Nat → Int) : (mixL h p).length = 8 := by
  rw [mixL, addk_length, hl]

theorem and31_all : ∀ k : Fin 32, 1 ≤ k.val → bits .and .u64 (IntKind.u64.wrap (-(k.val : Int))) 31 = 32 - (k.val : Int) := by decide +kernel
theorem and31 (n : Int) (h1 : 1 ≤ n) (h2 : n ≤ 31) : bits .and .u64 (IntKind.u64.wrap (-n)) 31 = 32 - n := by
  have := and31_all ⟨n.toNat, by omega⟩ (by simp; omega)
  simpa [Int.toNat_of_nonneg (show 0 ≤ n by omega)] using this
theorem bits_or_comm (k : IntKind) (x y : Int) : bits .or k x y = bits .or k y x := by
  unfold bits; simp only [BitVec.or_comm]

end Go.Proofs.YtkgbldkjpohinaaGreatDoor
