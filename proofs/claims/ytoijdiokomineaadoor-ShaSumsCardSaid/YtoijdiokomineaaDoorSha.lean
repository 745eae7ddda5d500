/-
  SHA-256 as the program reckons it, in plain Lean: rotations, the schedule, the rounds, a block. No program.
-/
import Derived.WalkKit
namespace Go.Proofs.YtoijdiokomineaaDoor
open Go.RowKit
set_option linter.unusedVariables false

/-- Right by n places, in a circle. -/
def rot (x : Int) (n : Nat) : Int := bits BinOp.or IntKind.u32 (x * ((2 ^ (32 - n) : Nat) : Int) % 4294967296) (x / ((2 ^ n : Nat) : Int))
def xr (a b : Int) : Int := bits BinOp.xor IntKind.u32 a b
def nd (a b : Int) : Int := bits BinOp.and IntKind.u32 a b
/-- All bits turned. -/
def nx (a : Int) : Int := bits BinOp.xor IntKind.u32 IntKind.u32.max a
def pl (a b : Int) : Int := (a + b) % 4294967296

def sg0 (a : Int) : Int := xr (xr (rot a 7) (rot a 18)) (a / 8)
def sg1 (b : Int) : Int := xr (xr (rot b 17) (rot b 19)) (b / 1024)

/-- The first k bytes of a block's word i. -/
def part (P : Nat → Int) (i : Nat) : Nat → Int
  | 0 => 0
  | k + 1 => bits BinOp.or IntKind.u32 (part P i k * 256 % 4294967296) (P (4 * i + k))

def wnext (P : Nat → Int) (i : Nat) (l : List Int) : Int :=
  if i < 16 then part P i 4 else (l.getD (i - 16) 0 + sg0 (l.getD (i - 15) 0) + l.getD (i - 7) 0 + sg1 (l.getD (i - 2) 0)) % 4294967296
def wl (P : Nat → Int) : Nat → List Int
  | 0 => []
  | i + 1 => wl P i ++ [wnext P i (wl P i)]
def wv (P : Nat → Int) (i : Nat) : Int := wnext P i (wl P i)

theorem wl_length (P : Nat → Int) (n : Nat) : (wl P n).length = n := by
  induction n with
  | zero => rfl
  | succ n ih => simp [wl, ih]

theorem wl_get (P : Nat → Int) (n j : Nat) (h : j < n) : (wl P n).getD j 0 = wv P j := by
  induction n with
  | zero => omega
  | succ n ih =>
    unfold wl
    by_cases hj : j < n
    · rw [List.getD_eq_getElem?_getD, List.getElem?_append_left (by rw [wl_length]; exact hj), ← List.getD_eq_getElem?_getD, ih hj]
    · obtain rfl : j = n := by omega
      rw [List.getD_eq_getElem?_getD, List.getElem?_append_right (by rw [wl_length]; exact Nat.le_refl _), wl_length]
      simp [wv]

theorem wv_low (P : Nat → Int) (i : Nat) (h : i < 16) : wv P i = part P i 4 := by simp [wv, wnext, h]
theorem wv_high (P : Nat → Int) (i : Nat) (h : 16 ≤ i) :
    wv P i = (wv P (i - 16) + sg0 (wv P (i - 15)) + wv P (i - 7) + sg1 (wv P (i - 2))) % 4294967296 := by
  conv => lhs; unfold wv wnext
  rw [if_neg (by omega), wl_get P i _ (by omega), wl_get P i _ (by omega), wl_get P i _ (by omega), wl_get P i _ (by omega)]

def st8 (a b c d e f g h : Int) : Nat → Int
  | 0 => a | 1 => b | 2 => c | 3 => d | 4 => e | 5 => f | 6 => g | _ => h

def kl : List Int := [1116352408, 1899447441, 3049323471, 3921009573, 961987163, 1508970993, 2453635748, 2870763221, 3624381080, 310598401, 607225278, 1426881987, 1925078388, 2162078206, 2614888103, 3248222580, 3835390401, 4022224774, 264347078, 604807628, 770255983, 1249150122, 1555081692, 1996064986, 2554220882, 2821834349, 2952996808, 3210313671, 3336571891, 3584528711, 113926993, 338241895, 666307205, 773529912, 1294757372, 1396182291, 1695183700, 1986661051, 2177026350, 2456956037, 2730485921, 2820302411, 3259730800, 3345764771, 3516065817, 3600352804, 4094571909, 275423344, 430227734, 506948616, 659060556, 883997877, 958139571, 1322822218, 1537002063, 1747873779, 1955562222, 2024104815, 2227730452, 2361852424, 2428436474, 2756734187, 3204031479, 3329325298]
def kv (i : Nat) : Int := kl.getD i 0

/-- What a round adds. -/
def one (k x : Int) (S : Nat → Int) : Int :=
  (S 7 + xr (xr (rot (S 4) 6) (rot (S 4) 11)) (rot (S 4) 25) + xr (nd (S 4) (S 5)) (nd (nx (S 4)) (S 6)) + k + x) % 4294967296
def two (S : Nat → Int) : Int :=
  pl (xr (xr (rot (S 0) 2) (rot (S 0) 13)) (rot (S 0) 22)) (xr (xr (nd (S 0) (S 1)) (nd (S 0) (S 2))) (nd (S 1) (S 2)))
def rnd (k x : Int) (S : Nat → Int) : Nat → Int :=
  st8 (pl (one k x S) (two S)) (S 0) (S 1) (S 2) (pl (S 3) (one k x S)) (S 4) (S 5) (S 6)
def rnds (H W : Nat → Int) : Nat → (Nat → Int)
  | 0 => H
  | i + 1 => rnd (kv i) (W i) (rnds H W i)
/-- The state behind a block. -/
def comp (H P : Nat → Int) : Nat → Int := fun j => pl (H j) (rnds H (wv P) 64 j)

/-- Numbers of 32 bits. -/
def U32 (x : Int) : Prop := 0 ≤ x ∧ x < 4294967296
theorem u32_bits (op : BinOp) (a b : Int) : U32 (bits op IntKind.u32 a b) := by
  have : ∀ n : Int, U32 (IntKind.u32.wrap n) := fun n => by rw [IntKind.wrap_u32]; unfold U32; omega
  unfold bits
  exact this _
theorem u32_pl (a b : Int) : U32 (pl a b) := by unfold U32 pl; omega
theorem u32_not (x : Int) (h : U32 x) : nx x = 4294967295 - x := by
  obtain ⟨n, rfl⟩ := Int.eq_ofNat_of_zero_le h.1
  have hn : n < 4294967296 := by have := h.2; omega
  have e1 : IntKind.u32.max = ((4294967295 : Nat) : Int) := by decide
  unfold nx
  have e2 : (BitVec.allOnes 32 ^^^ BitVec.ofNat 32 n).toNat = 4294967295 - n := by
    rw [BitVec.allOnes_xor, BitVec.toNat_not, BitVec.toNat_ofNat, Nat.mod_eq_of_lt hn]
  have e3 : (4294967295 ^^^ n : Nat) = 4294967295 - n := by
    rw [← e2, BitVec.toNat_xor, BitVec.toNat_ofNat, Nat.mod_eq_of_lt hn]; rfl
  rw [e1]
  show IntKind.u32.wrap ((BitVec.ofInt 32 ((4294967295 : Nat) : Int) ^^^ BitVec.ofInt 32 (n : Int)).toNat : Int) = _
  rw [BitVec.toNat_xor, BitVec.ofInt_natCast, BitVec.ofInt_natCast, BitVec.toNat_ofNat, BitVec.toNat_ofNat, Nat.mod_eq_of_lt hn, show 4294967295 % 2 ^ 32 = 4294967295 from rfl, e3, IntKind.wrap_u32]
  omega
theorem u32_part (P : Nat → Int) (i k : Nat) : U32 (part P i k) := by
  cases k with
  | zero => exact ⟨Int.le_refl _, show (0 : Int) < 4294967296 by decide⟩
  | succ k => exact u32_bits _ _ _
theorem u32_wv (P : Nat → Int) (i : Nat) : U32 (wv P i) := by
  by_cases h : i < 16
  · rw [wv_low P i h]; exact u32_part _ _ _
  · rw [wv_high P i (by omega)]; unfold U32; omega
theorem u32_kv (i : Nat) : U32 (kv i) := by
  by_cases h : i < 64
  · have : ∀ j : Fin 64, 0 ≤ kv j ∧ kv j < 4294967296 := by decide +kernel
    exact this ⟨i, h⟩
  · have : kv i = 0 := by unfold kv; rw [List.getD_eq_getElem?_getD, List.getElem?_eq_none (by show 64 ≤ i; omega)]; rfl
    rw [this]; exact ⟨Int.le_refl _, by decide⟩
theorem u32_rnd (k x : Int) (S : Nat → Int) (h : ∀ j, U32 (S j)) (j : Nat) : U32 (rnd k x S j) := by
  unfold rnd st8
  split <;> first | exact u32_pl _ _ | exact h _
theorem u32_rnds (H W : Nat → Int) (h : ∀ j, U32 (H j)) (i j : Nat) : U32 (rnds H W i j) := by
  induction i generalizing j with
  | zero => exact h j
  | succ i ih => exact u32_rnd _ _ _ ih j
theorem u32_comp (H P : Nat → Int) (j : Nat) : U32 (comp H P j) := u32_pl _ _

/-- A byte. -/
def U8 (x : Int) : Prop := 0 ≤ x ∧ x < 256

/-- What sha.Sum holds while bytes come: the state, the block, how many bytes stand in it. -/
structure Str where
  h : Nat → Int
  b : Nat → Int
  n : Nat
def Str.next (s : Str) (c : Int) (j : Nat) : Int := if j = s.n then c else s.b j
def Str.add (s : Str) (c : Int) : Str := if s.n + 1 = 64 then ⟨comp s.h (s.next c), s.next c, 0⟩ else ⟨s.h, s.next c, s.n + 1⟩
structure Str.Ok (s : Str) : Prop where
  n : s.n < 64
  h : ∀ j, U32 (s.h j)
  b : ∀ j, U8 (s.b j)
theorem Str.Ok.add {s : Str} (h : s.Ok) {c : Int} (hc : U8 c) : (s.add c).Ok := by
  have hb : ∀ j, U8 (s.next c j) := fun j => by unfold Str.next; split <;> first | exact hc | exact h.b j
  unfold Str.add
  split
  · exact ⟨by show 0 < 64; omega, fun j => u32_comp _ _ _, hb⟩
  · exact ⟨by have := h.n; show s.n + 1 < 64; omega, h.h, hb⟩

end Go.Proofs.YtoijdiokomineaaDoor
