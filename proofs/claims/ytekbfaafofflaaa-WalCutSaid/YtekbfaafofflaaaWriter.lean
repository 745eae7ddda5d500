/-
  The walks of six.New, Writer.Count, Writer.Whole, Writer.Text, Writer.Raw, Writer.Bytes.
-/
import Derived.Test.YtekbfaafofflaaaGroups
import Derived.Laws.BytesArg
namespace Go.Proofs.Ytekbfaafofflaaa
open Go.RowKit
set_option linter.unusedVariables false

/-- The writer in block p has gathered L. -/
def Wrt (w : World) (p : Nat) (L : List Int) : Prop := ∃ ao cap, w.heap[p]? = some (.cells #[.slice ao L.length cap] 45 (0, 0)) ∧ Own w (p + 1) 5 .u8 ao cap L

theorem Wrt.lt {w : World} {p : Nat} {L : List Int} (h : Wrt w p L) : p < w.heap.size := by
  obtain ⟨ao, cap, h1, _⟩ := h
  exact (Array.getElem?_eq_some_iff.1 h1).1
theorem Wrt.below {w w' : World} {p : Nat} {L : List Int} (h : Wrt w p L) (hb : Below w.heap.size w w') : Wrt w' p L := by
  obtain ⟨ao, cap, h1, h2⟩ := h
  exact ⟨ao, cap, (hb.block p (Array.getElem?_eq_some_iff.1 h1).1).trans h1, h2.below hb⟩
theorem Own.store {w : World} {B : Nat} {e : TypeId} {k : IntKind} {ao : Option Addr} {cap : Nat} {L : List Int} (h : Own w B e k ao cap L) (a : Addr) (ha : a.block < B) (v : Value) : Own (w.setCell a v) B e k ao cap L := by
  refine World.ownsRow.kept (row := some a.block) h ⟨rfl, rfl, rfl, by simp, fun k hk hne => heap_setCell_other _ _ _ _ (fun e => hne (by rw [e]))⟩ ?_
  rw [own_ownB]
  cases hv : ownB ao with
  | none => exact Or.inl rfl
  | some b => right; have := h.above b hv; intro e; cases e; omega
/-- Behind a call that has gathered more, and the store of the slice. -/
theorem Wrt.put {w w1 : World} {p : Nat} {L L' : List Int} (h : Wrt w p L) {ao : Option Addr} {n cap : Nat} (hn : n = L'.length) (ho : Own w1 (p + 1) 5 .u8 ao cap L') (hb : Below (p + 1) w w1) :
    Wrt (w1.setCell ⟨p, 0, none⟩ (.slice ao n cap)) p L' ∧ Below p w (w1.setCell ⟨p, 0, none⟩ (.slice ao n cap)) := by
  subst hn
  obtain ⟨ao0, cap0, h1, h2⟩ := h
  have h1' := (hb.block p (by omega)).trans h1
  refine ⟨⟨ao, cap, ?_, ho.store _ (by simp) _⟩, (hb.mono (by omega)).setCell (by simp) _⟩
  rw [heap_setCell_same w1 p 0 _ 45 _ h1']; rfl
theorem Wrt.facts {w w1 : World} {p : Nat} {c : Array Value} (h1 : w.heap[p]? = some (.cells c 45 (0, 0))) (hc : c.size = 1) (hb : Below (p + 1) w w1) : (∃ v, w1.cell? ⟨p, 0, none⟩ = some v) ∧ w1.frozen? ⟨p, 0, none⟩ = false := by
  have h1' := (hb.block p (by omega)).trans h1
  refine ⟨?_, frozen_of_row _ _ _ _ _ h1'⟩
  rw [cell_of_row _ _ _ _ _ _ h1']
  exact ⟨c[0]'(by omega), by simp [hc]⟩

set_option maxRecDepth 100000 in
theorem new_any (w : World) : Calls Try.prog 10 #[] w fun e w' => e = .returned (.pointer (some ⟨w.heap.size, 0, none⟩)) ∧ Wrt w' w.heap.size [] ∧ Below w.heap.size w w' ∧ w'.heap.size = w.heap.size + 1 := by
  go_enter Try.func10, Try.ntmps10
  go_wp2_with fail
  go_ret
  exact ⟨rfl, ⟨none, 0, heap_alloc_new _ _, Own.nil _ _ _ _⟩, (Below.refl _ _).alloc (Nat.le_refl _) _, by simp⟩

/-- A text's numbers. -/
def bl (s : ByteArray) : List Int := s.data.toList.map fun b => (b.toNat : Int)
theorem bl_length (s : ByteArray) : (bl s).length = s.size := by simp [bl]

set_option maxRecDepth 100000 in
theorem text_any {w : World} {p : Nat} {L : List Int} (h : Wrt w p L) (s : ByteArray) (hl : L.length + 11 + s.size < 140737488355328) :
    Calls Try.prog 11 #[.pointer (some ⟨p, 0, none⟩), .string s] w fun e w' => e = .returned (.int .i64 0) ∧ Wrt w' p (L ++ (grp s.size 64 ++ bl s)) ∧ Below p w w' := by
  have H := Lib.hid h
  have hlt := h.lt
  obtain ⟨ao, cap, h1, ho⟩ := h
  have hc := cell_of_row w p 0 _ _ _ h1
  have H1 := Lib.hid h1; clear h1
  have und9 : Try.prog.underlying 9 = some .string := by kernel_rfl
  have htl := tops_le s.size (by omega)
  have hgl := grp_length s.size 64
  have hlen : (L ++ grp s.size 64).length = L.length + (grp s.size 64).length := List.length_append
  have HGL := Lib.hid hgl; clear hgl
  have HLEN := Lib.hid hlen; clear hlen
  go_enter Try.func11, Try.ntmps11
  go_wp2_with (first
    | (go_at_call 18; refine (groups_any ho rfl s.size (by omega) 64 (by decide) (by decide) (by omega) (by omega)).mono ?_; rintro e w0 ⟨a0, c0, rfl, ho0, hb0⟩)
    | (at_builtin; refine wpList_own_text rfl (.tmp 15) (.tmp 16) 32 9 rfl 5 und38 und9 info5 ho0 rfl (by rw [HLEN.out]) s rfl (by rw [HLEN.out, HGL.out]; omega) (by have := hb0.size; omega) ?_; intro ao' cap' w1 ho' hg; have hb' := below_own hb0 ho0 hg (Nat.le_refl _) (by have := hb0.size; omega); obtain ⟨⟨v1, hc1⟩, hf1⟩ := Wrt.facts H1.out rfl hb'))
  have R := H.out.put (n := L.length + (grp s.size 64).length + s.size) (by rw [List.length_append, HLEN.out]; simp) ho' hb'
  go_ret
  refine ⟨rfl, ?_, R.2⟩
  rw [← List.append_assoc]; exact R.1

set_option maxRecDepth 100000 in
theorem bytes_any {w : World} {p : Nat} {L : List Int} (h : Wrt w p L) :
    Calls Try.prog 13 #[.pointer (some ⟨p, 0, none⟩)] w fun e w' => e = .returned (.string (strOfNums L)) ∧ w = w' := by
  obtain ⟨ao, cap, h1, ho⟩ := h
  have hc := cell_of_row w p 0 _ _ _ h1
  have und9 : Try.prog.underlying 9 = some .string := by kernel_rfl
  have und5 : Try.prog.underlying 5 = some (.int .u8) := by kernel_rfl
  have hcv : (convert 32 9 (.slice ao L.length cap)).run Try.prog w = .ok (.string (strOfNums L)) w := by
    by_cases hz : 0 < L.length
    · obtain ⟨g, rfl, _, _⟩ := ho.headAt hz
      exact run_convert_bytes_arg (P := Try.prog) w 32 5 und38 und5 g 0 L.length cap L rfl (fun j hj => by rw [Nat.zero_add]; exact ho.cell j hj) 9 und9
    · have hnil : L = [] := List.eq_nil_of_length_eq_zero (by omega)
      subst hnil
      rcases Joins.ownsRow_forms ho with ⟨hv, _⟩ | ⟨g, c, hv⟩
      · simp only [Value.slice.injEq] at hv
        obtain ⟨rfl, _, rfl⟩ := hv
        simp [convert, run_underlying und38, run_underlying und9]
        rfl
      · simp only [Value.slice.injEq] at hv
        obtain ⟨rfl, _, rfl⟩ := hv
        exact run_convert_bytes_arg (P := Try.prog) w 32 5 und38 und5 g 0 0 _ [] rfl (fun j hj => absurd hj (by omega)) 9 und9
  clear h1 ho
  go_enter Try.func13, Try.ntmps13
  go_wp2_with fail
  go_ret
  exact ⟨rfl, rfl⟩
end Go.Proofs.Ytekbfaafofflaaa
