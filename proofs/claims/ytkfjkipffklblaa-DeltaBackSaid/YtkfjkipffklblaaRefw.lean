/-
  The walks of siloref01.groups, Whole, Text: the document's writing is the writer's.
-/
import Derived.Test.YtkfjkipffklblaaBack
namespace Go.Proofs.Ytkfjkipffklblaa
open Go.RowKit
set_option linter.unusedVariables false

theorem strOfNums_size (l : List Int) : (strOfNums l).size = l.length := by
  show (strOfNums l).data.size = _
  simp [strOfNums]
theorem conv1 (W : World) (c : Int) : (convert 22 9 (.slice (some ⟨W.heap.size, 0, none⟩) 1 1)).run Try.prog (W.alloc (.cells #[.int .u8 c] 5)) = .ok (.string (strOfNums [c])) (W.alloc (.cells #[.int .u8 c] 5)) :=
  run_convert_bytes_arg (P := Try.prog) _ 22 5 und38 (by kernel_rfl) W.heap.size 0 1 1 [c] rfl (fun j hj => by
    have : j = 0 := by simpa using hj
    subst this; rw [Nat.zero_add, cell_of_row _ _ _ _ _ _ (heap_alloc_new W _)]; rfl) 9 (by kernel_rfl)

set_option maxRecDepth 100000 in
theorem rgroups_any (w : World) (x : Nat) (hx : x < 9223372036854775808) (m : Int) (hm : m = 64 ∨ m = 128) :
    Calls Try.prog 24 #[.int .u64 x, .int .i64 m] w fun e w' => e = .returned (.string (strOfNums (grp x m))) ∧ Below w.heap.size w w' := by
  have hcv := conv1
  obtain ⟨d, hd⟩ : ∃ d : Nat, x % 64 = d := ⟨_, rfl⟩
  obtain ⟨q, hq⟩ : ∃ q : Nat, x / 64 = q := ⟨_, rfl⟩
  have hdi : (x : Int) % 64 = (d : Int) := by omega
  have hqi : (x : Int) / 64 = (q : Int) := by omega
  have hg := grp_dig x m
  have hgl := grp_len_le x hx m
  rw [hd, hq] at hg
  have hd64 : d < 64 := by omega
  have hq0 : q < 9223372036854775808 := by omega
  have hm0 : 0 ≤ m ∧ m ≤ 128 := by omega
  obtain ⟨hm0, hm1⟩ := hm0
  obtain ⟨G, hG⟩ : ∃ G, grp x m = G := ⟨_, rfl⟩
  rw [hG] at hg hgl ⊢
  have HG := Lib.hid hg
  clear hg hd hq hG hm
  go_enter Try.func24, Try.ntmps24
  go_wp2_with fail
  go_loopg [0, 5] q (fun g v s wr => ∃ tl : List Int, v = .int .u64 g ∧ s = .string (strOfNums tl) ∧ G = dig g ++ tl ∧ g ≤ q ∧ Below w.heap.size w wr)
  case atStart => exact ⟨[m + (d : Int)], rfl, rfl, HG.out, Nat.le_refl _, (Below.refl _ _).alloc (Nat.le_refl _) _⟩
  case round =>
    obtain ⟨tl, rfl, rfl, htl, hgq, hb⟩ := hrel
    have htl2 := congrArg List.length htl
    rw [List.length_append] at htl2
    by_cases h0 : gk = 0
    · subst h0
      rw [dig_zero, List.nil_append] at htl
      subst htl
      go_wp2_with fail
      go_ret
      exact ⟨rfl, hb⟩
    · rw [dig_pos gk h0, List.append_assoc] at htl
      obtain ⟨d2, hd2⟩ : ∃ d : Nat, gk % 64 = d := ⟨_, rfl⟩
      obtain ⟨q2, hq2⟩ : ∃ q : Nat, gk / 64 = q := ⟨_, rfl⟩
      have hdi : (gk : Int) % 64 = (d2 : Int) := by omega
      have hqi : (gk : Int) / 64 = (q2 : Int) := by omega
      have hd64 : d2 < 64 := by omega
      have hg0 : (0 : Int) < (gk : Int) := by omega
      have hlt : q2 < gk := by omega
      rw [hd2, hq2] at htl
      have hsum : ¬ (9223372036854775807 < (strOfNums [(d2 : Int)]).size + (strOfNums tl).size) := by rw [strOfNums_size, strOfNums_size, List.length_singleton]; omega
      have hap := strOfNums_append [(d2 : Int)] tl
      have HTL := Lib.hid htl
      clear htl hd2 hq2 htl2
      go_wp2_with fail
      go_roundg q2
      case measure => omega
      case rel => exact ⟨[(d2 : Int)] ++ tl, by go_num, by first | rfl | rw [hap], HTL.out, by omega, hb.alloc hb.size _⟩
set_option maxRecDepth 100000 in
theorem rwriteW_any (w : World) (x : Int) (hx0 : -9223372036854775808 ≤ x) (hx1 : x ≤ 9223372036854775807) :
    Calls Try.prog 15 #[.int .i64 x] w fun e w' => e = .returned (.string (strOfNums (wh x))) ∧ Below w.heap.size w w' := by
  by_cases hx : x < 0
  · have e : wh x = grp (-(x + 1)).toNat 128 := by unfold wh; rw [if_pos hx]
    rw [e]
    have C := Lib.hid (rgroups_any w (-(x + 1)).toNat (by omega) 128 (Or.inr rfl))
    obtain ⟨y, hy⟩ : ∃ y : Nat, (-(x + 1)).toNat = y := ⟨_, rfl⟩
    obtain rfl : x = -(y : Int) - 1 := by omega
    rw [hy] at C ⊢
    clear hy e
    have hcv : IntKind.u64.wrap (-(-(y : Int) - 1 + 1)) = (y : Int) := by rw [IntKind.wrap_u64]; omega
    go_enter Try.func15, Try.ntmps15
    go_wp2_with (go_at_call 24; refine C.out.mono ?_; rintro e w1 ⟨rfl, hb⟩)
    go_ret
    exact ⟨rfl, hb⟩
  · have e : wh x = grp x.toNat 64 := by unfold wh; rw [if_neg hx]
    rw [e]
    have C := Lib.hid (rgroups_any w x.toNat (by omega) 64 (Or.inl rfl))
    obtain ⟨y, hy⟩ : ∃ y : Nat, x.toNat = y := ⟨_, rfl⟩
    obtain rfl : x = (y : Int) := by omega
    rw [hy] at C ⊢
    clear hy e
    go_enter Try.func15, Try.ntmps15
    go_wp2_with (go_at_call 24; refine C.out.mono ?_; rintro e w1 ⟨rfl, hb⟩)
    go_ret
    exact ⟨rfl, hb⟩
end Go.Proofs.Ytkfjkipffklblaa
