/-
  The walk of silolaw19.awake.
-/
import Derived.Test.YtkfjkipffklblaaApply
import Derived.Lib.SlBytesConst
namespace Go.Proofs.Ytkfjkipffklblaa
open Go.RowKit
set_option linter.unusedVariables false

theorem conv_own {w : World} {B : Nat} {ao : Option Addr} {cap : Nat} {L : List Int} (ho : Own w B 5 .u8 ao cap L) (n : Nat) (hn : n = L.length) : (convert 22 9 (.slice ao n cap)).run Try.prog w = .ok (.string (strOfNums L)) w := by
  subst hn
  have und9 : Try.prog.underlying 9 = some .string := by kernel_rfl
  have und5 : Try.prog.underlying 5 = some (.int .u8) := by kernel_rfl
  by_cases hz : 0 < L.length
  · obtain ⟨g, rfl, _, _⟩ := ho.headAt hz
    exact run_convert_bytes_arg (P := Try.prog) w 22 5 und38 und5 g 0 L.length cap L rfl (fun j hj => by rw [Nat.zero_add]; exact ho.cell j hj) 9 und9
  · have hnil : L = [] := List.eq_nil_of_length_eq_zero (by omega)
    subst hnil
    rcases Joins.ownsRow_forms ho with ⟨hv, _⟩ | ⟨g, c, hv⟩
    · simp only [Value.slice.injEq] at hv
      obtain ⟨rfl, _, rfl⟩ := hv
      simp [convert, run_underlying und38, run_underlying und9]
      rfl
    · simp only [Value.slice.injEq] at hv
      obtain ⟨rfl, _, rfl⟩ := hv
      exact run_convert_bytes_arg (P := Try.prog) w 22 5 und38 und5 g 0 0 _ [] rfl (fun j hj => absurd hj (by omega)) 9 und9
theorem grp_small (x : Nat) (h : x < 64) (m : Int) : grp x m = [m + (x : Int)] := by
  unfold grp; rw [tops_small x h]; simp; omega
def exP : ByteArray := { data := #[68, 69, 64, 68, 120, 121] }
def exl : List Q := [⟨true, 0, { data := #[] }, 2⟩, ⟨false, 0, { data := #[120, 121] }, 0⟩]
theorem exP_bl : bl exP = grp 4 64 ++ (pB exl ++ []) := by
  have h1 : pB exl = (grp 5 64 ++ grp 0 64) ++ (grp 4 64 ++ [120, 121]) := by
    show (grp 5 64 ++ grp 0 64) ++ ((grp 4 64 ++ [120, 121]) ++ []) = _
    rw [List.append_nil]
  rw [h1, grp_small 4 (by decide), grp_small 5 (by decide), grp_small 0 (by decide)]; rfl
theorem exV : pV [97, 98, 99] exl = [97, 98, 120, 121] := rfl
theorem exOk : ∀ q ∈ exl, q.Ok [97, 98, 99] := by
  intro q hq
  simp [exl] at hq
  rcases hq with rfl | rfl
  · unfold Q.Ok; simp
  · unfold Q.Ok; show 0 < (({ data := #[120, 121] } : ByteArray)).size; decide

set_option maxRecDepth 100000 in
theorem awake_any (w : World) : Calls Try.prog 6 #[] w fun e w' => e = .returned (.bool true) ∧ Below w.heap.size w w' := by
  have und5 : Try.prog.underlying 5 = some (.int .u8) := by kernel_rfl
  have kc := fun (w : World) (C : Array Value) (n c : Nat) => Lib.run_convert_bytes_const (P := Try.prog) w 22 5 C n c und38 und5
  go_enter Try.func6, Try.ntmps6
  go_wp2_with fail
  have hA : BytesArg (w.alloc (.cells #[.int .u8 97, .int .u8 98, .int .u8 99] 5 (3, 4))) (some ⟨w.heap.size, 0, none⟩) w.heap.size 0 3 3 [97, 98, 99] := by
    refine ⟨rfl, Nat.le_refl _, fun _ => ⟨rfl, by simp⟩, fun i hi => ?_, fun c hc => ?_⟩
    · rw [cell_of_row _ _ _ _ _ _ (heap_alloc_new w _)]
      match i, hi with
      | 0, _ => rfl
      | 1, _ => rfl
      | 2, _ => rfl
    · simp at hc; omega
  refine (apply_any [97, 98, 99] _ _ _ _ _ hA (by decide) exP 4 exl [] exP_bl exOk (by decide) (Or.inl (by rw [exV]; rfl)) (by decide)).mono ?_
  rintro e w1 ⟨ao, m, cap, ez, rfl, hap, hb⟩
  obtain ⟨rfl, rfl, ho⟩ := hap.1 (by rw [exV]; rfl) rfl
  rw [exV] at ho
  have hco := conv_own ho 4 rfl
  rw [show (pV [97, 98, 99] exl).length = 4 from by rw [exV]; rfl]
  have hs : strOfNums [97, 98, 120, 121] = { data := #[97, 98, 120, 121] } := rfl
  rw [hs] at hco
  clear ho hap
  go_wp2_with fail
  go_ret
  exact ⟨rfl, ((Below.refl _ _).alloc (Nat.le_refl _) _).trans (hb.mono (by simp))⟩
end Go.Proofs.Ytkfjkipffklblaa
