/-
  SHA-256 as a stream of bytes, in plain Lean: bytes are added one by one; the end of a text; a key's bytes. No program.
-/
import Derived.Test.YtoijdiokomineaaDoorSha
namespace Go.Proofs.YtoijdiokomineaaDoor
open Go.RowKit
set_option linter.unusedVariables false

def addAll (s : Str) (l : List Int) : Str := l.foldl Str.add s
theorem addAll_append (s : Str) (a b : List Int) : addAll s (a ++ b) = addAll (addAll s a) b := List.foldl_append
theorem addAll_snoc (s : Str) (a : List Int) (c : Int) : addAll s (a ++ [c]) = (addAll s a).add c := by rw [addAll_append]; rfl
theorem addAll_ok {s : Str} (h : s.Ok) (l : List Int) (hl : ∀ c ∈ l, U8 c) : (addAll s l).Ok := by
  induction l generalizing s with
  | nil => exact h
  | cons c l ih => exact ih (h.add (hl c (by simp))) (fun d hd => hl d (by simp [hd]))
theorem add_n (s : Str) (h : s.n < 64) (c : Int) : (s.add c).n = (s.n + 1) % 64 := by
  unfold Str.add
  split
  · show 0 = _; omega
  · show s.n + 1 = _; omega
theorem addAll_n (s : Str) (h : s.n < 64) (l : List Int) : (addAll s l).n = (s.n + l.length) % 64 := by
  induction l generalizing s with
  | nil => show s.n = (s.n + 0) % 64; omega
  | cons c l ih =>
    have e := add_n s h c
    show (addAll (s.add c) l).n = _
    rw [ih (s.add c) (by omega), e, List.length_cons]
    omega

/-- The bytes of a text. -/
def bl (s : ByteArray) : List Int := s.data.toList.map fun x => (x.toNat : Int)
theorem bl_length (s : ByteArray) : (bl s).length = s.size := by unfold bl; rw [List.length_map]; rfl
theorem bl_u8 (s : ByteArray) (c : Int) (h : c ∈ bl s) : U8 c := by
  unfold bl at h
  obtain ⟨x, _, rfl⟩ := List.mem_map.1 h
  have := x.toNat_lt
  unfold U8; omega
theorem bl_take (s : ByteArray) (j : Nat) (h : j < s.size) : (bl s).take (j + 1) = (bl s).take j ++ [((s[j]'h).toNat : Int)] := by
  rw [List.take_succ_eq_append_getElem (by rw [bl_length]; exact h)]
  congr 1
  simp [bl]
  rfl
/-- The bytes of the first i texts. -/
def pre (ss : Nat → ByteArray) : Nat → List Int
  | 0 => []
  | i + 1 => pre ss i ++ bl (ss i)
theorem pre_u8 (ss : Nat → ByteArray) (i : Nat) (c : Int) (h : c ∈ pre ss i) : U8 c := by
  induction i with
  | zero => simp [pre] at h
  | succ i ih =>
    unfold pre at h
    rcases List.mem_append.1 h with h | h
    · exact ih h
    · exact bl_u8 _ _ h
theorem pre_mono (ss : Nat → ByteArray) (i j : Nat) (h : i ≤ j) : (pre ss i).length ≤ (pre ss j).length := by
  induction j with
  | zero => obtain rfl : i = 0 := by omega
            exact Nat.le_refl _
  | succ j ih =>
    by_cases e : i = j + 1
    · subst e; exact Nat.le_refl _
    · have := ih (by omega)
      show _ ≤ (pre ss j ++ bl (ss j)).length
      rw [List.length_append]
      omega

def hstart : Nat → Int := st8 1779033703 3144134277 1013904242 2773480762 1359893119 2600822924 528734635 1541459225
def sstart : Str := ⟨hstart, fun _ => 0, 0⟩
theorem sstart_ok : sstart.Ok := by
  refine ⟨by decide, fun j => ?_, fun j => ⟨Int.le_refl _, show (0 : Int) < 256 by decide⟩⟩
  show U32 (st8 _ _ _ _ _ _ _ _ j)
  unfold st8 U32
  split <;> omega

/-- How many zeros stand behind the mark of a text of n bytes. -/
def zeros (n : Nat) : Nat := (119 - n % 64) % 64
/-- The first m of the eight bytes of a length. -/
def len8 (n : Nat) (m : Nat) : List Int := (List.range m).map fun i => ((n * 8 / 2 ^ (56 - 8 * i) % 256 : Nat) : Int)
def pads (l : List Int) : List Int := l ++ ([128] ++ (List.replicate (zeros l.length) 0 ++ len8 l.length 8))
def shaH (l : List Int) : Nat → Int := (addAll sstart (pads l)).h
/-- A state's bytes. -/
def keyOf (h : Nat → Int) (j : Nat) : Int := h (j / 4) / ((2 ^ (24 - 8 * (j % 4)) : Nat) : Int) % 256
def shaKey (l : List Int) : Nat → Int := keyOf (shaH l)

end Go.Proofs.YtoijdiokomineaaDoor
