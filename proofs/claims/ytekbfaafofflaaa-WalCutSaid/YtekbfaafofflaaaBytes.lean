/-
  The bytes of a text as a slice of the call's own; one of them turned.
-/
import Derived.Test.YtekbfaafofflaaaCutq
import Derived.Laws.IdiomStrings
namespace Go.Proofs.Ytekbfaafofflaaa
open Go.RowKit
set_option linter.unusedVariables false

theorem bytesRow_get (S : ByteArray) (c j : Nat) (hj : j < S.size) : (bytesRow S c)[j]? = some (.int .u8 ((bl S).getD j 0)) := by
  have hj2 : j < S.data.size := hj
  unfold bytesRow
  rw [Array.getElem?_append_left (by simpa using hj2), Array.getElem?_map, Array.getElem?_eq_getElem hj2]
  rw [List.getD_eq_getElem?_getD]
  unfold bl
  rw [List.getElem?_map, Array.getElem?_toList, Array.getElem?_eq_getElem hj2]
  rfl
theorem conv_bytes (w : World) (S : ByteArray) : ∃ (C : Nat) (W : World), (convert 9 32 (.string S)).run Try.prog w = .ok (.slice (some ⟨w.heap.size, 0, none⟩) S.size C) W ∧ S.size ≤ C ∧
    (∀ j, j < S.size → W.cell? ⟨w.heap.size, j, none⟩ = some (.int .u8 ((bl S).getD j 0))) ∧ (∀ j, j < S.size → W.frozen? ⟨w.heap.size, j, none⟩ = false) ∧ Below w.heap.size w W := by
  refine ⟨_, _, run_bytes_of_string w 9 32 5 S (by kernel_rfl) und38 (by kernel_rfl), ?_, fun j hj => ?_, fun j hj => ?_, ?_⟩
  · exact grownCap_ge _ _ _ _
  · rw [cell_of_row _ _ _ _ _ _ (show (w.drew.alloc _).heap[w.heap.size]? = _ from heap_alloc_new w.drew _)]
    rw [bytesRow_get S _ j hj]
  · unfold World.frozen?
    rw [show (w.drew.alloc _).heap[w.heap.size]? = _ from heap_alloc_new w.drew _]
    have hsz : (bytesRow S (grownCap w S.size 0 5)).size = grownCap w S.size 0 5 := by
      have h1 : S.data.size = S.size := rfl
      have h2 := grownCap_ge w S.size 0 5
      unfold bytesRow
      rw [Array.size_append, Array.size_map, Array.size_replicate]
      omega
    have h2 := grownCap_ge w S.size 0 5
    simp only [hsz, Bool.and_eq_false_iff, decide_eq_false_iff_not]
    left; omega
  · exact Below.alloc (w := w.drew) (below_drewN (Below.refl _ _) 1) (Nat.le_refl _) _
theorem set_getD (L : List Int) (k j : Nat) (y : Int) (hk : k < L.length) (hj : j < L.length) : (L.set k y).getD j 0 = if j = k then y else L.getD j 0 := by
  rw [List.getD_eq_getElem?_getD, List.getElem?_set, List.getD_eq_getElem?_getD]
  by_cases e : k = j
  · subst e; rw [if_pos rfl, if_pos hk, if_pos rfl]; rfl
  · rw [if_neg e, if_neg (Ne.symm e)]
/-- The bytes with one turned, as a text. -/
theorem conv_turned {W : World} {g C k : Nat} {L : List Int} (hc : ∀ j, j < L.length → W.cell? ⟨g, j, none⟩ = some (.int .u8 (L.getD j 0))) (hk : k < L.length) (y : Int) :
    (convert 32 9 (.slice (some ⟨g, 0, none⟩) L.length C)).run Try.prog (W.setCell ⟨g, k, none⟩ (.int .u8 y)) = .ok (.string (strOfNums (L.set k y))) (W.setCell ⟨g, k, none⟩ (.int .u8 y)) := by
  refine run_convert_bytes_arg (P := Try.prog) _ 32 5 und38 (by kernel_rfl) g 0 L.length C (L.set k y) (by simp) (fun j hj => ?_) 9 (by kernel_rfl)
  rw [Nat.zero_add, set_getD L k j y hk hj]
  by_cases e : j = k
  · subst e
    rw [if_pos rfl]
    exact World.cell?_setCell_same W _ _ (hc j hk)
  · rw [if_neg e]
    exact (World.cell?_setCell_other W _ _ _ (by intro h; injection h with _ h2 _; exact e h2.symm)).trans (hc j (by simpa using hj))
theorem bl_turned (L : List Int) (k : Nat) (y : Int) (h8 : ∀ c ∈ L, 0 ≤ c ∧ c < 256) (hk : k < L.length) : ∃ R, bl (strOfNums (L.set k y)) = L.take k ++ R := by
  have e : L.set k y = L.take k ++ (y :: L.drop (k + 1)) := by
    rw [List.set_eq_take_append_cons_drop, if_pos hk]
  refine ⟨bl (strOfNums (y :: L.drop (k + 1))), ?_⟩
  rw [e, ← strOfNums_append, bl_append, bl_strOf _ (fun c hc => h8 c (List.mem_of_mem_take hc))]
def TurnP (w : World) (T : Nat → ByteArray) (m : Nat) (e : Ending) (w' : World) : Prop := ∃ (a : Option Addr) (c : Nat) (nn : Int) (X : List ByteArray), e = .returned (.tuple #[.slice a (m + X.length) c, .int .i64 nn]) ∧ OwnV w' w.heap.size 9 a c (((List.range m).map T ++ X).map Value.string) ∧ Below w.heap.size w w'
theorem split_turned (T : Nat → ByteArray) (F : Nat → List Int) (hF : ∀ j, F j = FT (T j)) (i m k : Nat) (hm : m ≤ i) (hT : ∀ j, j < i → (T j).size ≤ 1048576) (hk : (upto F m).length ≤ k) (S : ByteArray) (hS : bl S = upto F i) (hk2 : k < S.size) (hsz : S.size ≤ 16777216) (y : Int) (w : World) :
    Calls Try.prog 7 #[.string (strOfNums ((bl S).set k y))] w (TurnP w T m) := by
  obtain ⟨R, hR⟩ := bl_turned (bl S) k y (bl_u8 S) (by rw [bl_length]; exact hk2)
  have hz : (strOfNums ((bl S).set k y)).size ≤ 16777216 := by rw [strOfNums_size, List.length_set, bl_length]; exact hsz
  rw [hS] at hR
  obtain ⟨X, n, hX⟩ := turned_sp T F hF i m k hm hT hk (strOfNums ((upto F i).set k y)) R hR
  rw [hS] at hz ⊢
  refine (split_any w _ hz).mono ?_
  rintro e w' ⟨a, c, rfl, ho, hb⟩
  rw [hX] at ho ⊢
  refine ⟨a, c, (n : Int), X, ?_, ho, hb⟩
  simp
end Go.Proofs.Ytekbfaafofflaaa
