/-
  A list of texts at the head of a text: what it is; the walks of six.PutList[string], six.TakeList[string], siloref01.ReadTexts.
-/
import Derived.Test.YtpjnephiijnpgaaReft
import Derived.Test.YtpjnephiijnpgaaOwnV
import Derived.Test.YtpjnephiijnpgaaSame
namespace Go.Proofs.Ytpjnephiijnpgaa
open Go.RowKit
set_option linter.unusedVariables false

def tk : Nat → ByteArray → List ByteArray × Nat × Int
  | 0, _ => ([], 0, 0)
  | n + 1, s => if s.size = 0 then ([], 0, 2) else if (rt s).2.2 ≠ 0 then ([], 0, (rt s).2.2) else
      if (tk n (s.extract (rt s).2.1 s.size)).2.2 ≠ 0 then ([], 0, (tk n (s.extract (rt s).2.1 s.size)).2.2) else ((rt s).1 :: (tk n (s.extract (rt s).2.1 s.size)).1, (rt s).2.1 + (tk n (s.extract (rt s).2.1 s.size)).2.1, 0)
def comb (acc : List ByteArray) (k : Nat) (r : List ByteArray × Nat × Int) : List ByteArray × Nat × Int :=
  if r.2.2 ≠ 0 then ([], 0, r.2.2) else (acc ++ r.1, k + r.2.1, 0)
def txtsOf (s : ByteArray) : List ByteArray × Nat × Int :=
  if (rc s).2.2 ≠ 0 then ([], 0, (rc s).2.2) else comb [] (rc s).2.1 (tk (rc s).1.toNat (s.extract (rc s).2.1 s.size))

theorem comb_zero (acc : List ByteArray) (k : Nat) (t : ByteArray) : comb acc k (tk 0 t) = (acc, k, 0) := by simp [comb, tk]
theorem comb_empty (acc : List ByteArray) (k n : Nat) (t : ByteArray) (h : t.size = 0) : comb acc k (tk (n + 1) t) = ([], 0, 2) := by simp [comb, tk, h]
theorem comb_bad (acc : List ByteArray) (k n : Nat) (t : ByteArray) (h : t.size ≠ 0) (e0 : Int) (he : e0 = 2 ∨ e0 = 3) (hr : rt t = (emp, 0, e0)) : comb acc k (tk (n + 1) t) = ([], 0, e0) := by
  have : e0 ≠ 0 := by omega
  simp [comb, tk, h, hr, this]
theorem comb_ok (acc : List ByteArray) (k n : Nat) (t x : ByteArray) (m : Nat) (h : t.size ≠ 0) (hr : rt t = (x, m, 0)) : comb acc k (tk (n + 1) t) = comb (acc ++ [x]) (k + m) (tk n (t.extract m t.size)) := by
  unfold comb
  conv => lhs; unfold tk
  rw [if_neg h, hr]
  simp only [ne_eq, not_true_eq_false, if_false]
  by_cases h2 : (tk n (t.extract m t.size)).2.2 = 0
  · simp [h2, Nat.add_assoc]
  · simp [h2]
theorem txtsOf_bad {s : ByteArray} {e0 : Int} (he : e0 = 2 ∨ e0 = 3) (h : rc s = (0, 0, e0)) : txtsOf s = ([], 0, e0) := by
  unfold txtsOf; rw [h]; exact if_pos (show e0 ≠ 0 by omega)
theorem txtsOf_ok {s : ByteArray} {N k : Nat} (h : rc s = ((N : Int), k, 0)) : txtsOf s = comb [] k (tk N (s.extract k s.size)) := by
  unfold txtsOf; rw [h]; exact if_neg (show ¬ ((0 : Int) ≠ 0) by simp)
theorem ext_from (s : ByteArray) (k m : Nat) (hk : k ≤ s.size) : (s.extract k s.size).extract m (s.extract k s.size).size = s.extract (k + m) s.size := by
  rw [ByteArray.size_extract, show min s.size s.size - k = s.size - k by omega]
  exact ext_ext s k m hk
theorem toList_emp (t : ByteArray) : (t.toList == []) = decide (t.size = 0) := by
  rw [ByteArray.toList_eq]
  have e : t.data.toList.length = t.size := by rw [Array.length_toList]; rfl
  cases h : t.data.toList with
  | nil => rw [h] at e; simp at e; simp [← e]
  | cons a l => rw [h] at e; simp at e; simp [← e]

theorem info9 : (Try.prog.info? 9).map (fun i => (i.zero, i.size, i.bytes)) = some (some (.string { data := #[] }), 1, 16) := by kernel_rfl
theorem und23' : Try.prog.underlying 23 = some (.slice 9) := by kernel_rfl
theorem map_str_app (l : List ByteArray) (x : ByteArray) : (l ++ [x]).map Value.string = l.map Value.string ++ [.string x] := by simp

set_option maxRecDepth 100000 in
set_option maxHeartbeats 1000000 in
theorem rtexts_any (w : World) (s : ByteArray) (hs : s.size ≤ 268435456) : Calls Try.prog 26 #[.string s] w fun e w' =>
    ∃ ao cap, e = .returned (.tuple #[.slice ao (txtsOf s).1.length cap, .int .i64 (txtsOf s).2.1, .int .i64 (txtsOf s).2.2]) ∧ OwnV w' w.heap.size 9 ao cap ((txtsOf s).1.map Value.string) ∧ Below w.heap.size w w' := by
  have W := rcountR_any w s (by omega)
  obtain ⟨R, hR⟩ : ∃ R, txtsOf s = R := ⟨_, rfl⟩
  rw [hR]
  rcases rc_cases s with ⟨e0, he, h⟩ | ⟨N, k, h, hn, h1, h2, h3⟩
  · rw [txtsOf_bad he h] at hR
    subst hR
    rw [h] at W
    have HW := Lib.hid W
    clear W h
    have he0 : (e0 == 0) = false := by rw [beq_eq_false_iff_ne]; omega
    have hN := OwnV.nil w w.heap.size 9
    rcases he with rfl | rfl
    all_goals
      go_enter Try.func26, Try.ntmps26
      go_wp2_with (go_at_call 36; refine HW.out.mono ?_; rintro e w1 ⟨rfl, rfl⟩; unfold tri)
      refine wp_loop_rounds 1 ?_
      rw [rounds_succ]
      go_wp2_with fail
      refine bodyPost_ret (results_tmp3 rfl _ _ _) rfl ?_
      exact ⟨none, 0, rfl, hN, Below.refl _ _⟩
  · rw [txtsOf_ok h] at hR
    rw [h] at W
    have HW := Lib.hid W
    have HR := Lib.hid hR
    clear W h hn hR
    have hk3 : (k : Int) ≤ (s.size : Int) := by omega
    go_enter Try.func26, Try.ntmps26
    go_wp2_with (go_at_call 36; refine HW.out.mono ?_; rintro e w1 ⟨rfl, rfl⟩; unfold tri)
    go_loopg [6, 7, 8, 9] (s.size + 2) (fun g kv ev ov iv wr => ∃ (i : Nat) (ez : Int), i ≤ N ∧ iv = .int .i64 i ∧ ev = .int .i64 ez ∧ Below w.heap.size w wr ∧
      ((∃ (kk : Nat) (acc : List ByteArray) (ao : Option Addr) (cap n : Nat), ez = 0 ∧ kv = .int .i64 kk ∧ ov = .slice ao n cap ∧ n = acc.length ∧ kk ≤ s.size ∧ acc.length ≤ kk ∧ OwnV wr w.heap.size 9 ao cap (acc.map Value.string) ∧
          comb acc kk (tk (N - i) (s.extract kk s.size)) = R ∧ s.size - kk < g) ∨
       ((ez = 2 ∨ ez = 3) ∧ R = ([], 0, ez) ∧ ∃ (kk : Int) (ao : Option Addr) (cap n : Nat), kv = .int .i64 kk ∧ ov = .slice ao n cap)))
    case atStart => exact ⟨0, 0, by omega, rfl, rfl, Below.refl _ _, Or.inl ⟨k, [], none, 0, 0, rfl, rfl, rfl, rfl, h3, Nat.zero_le _, OwnV.nil _ _ _, HR.out, by omega⟩⟩
    case round =>
      obtain ⟨i, ez, hi, rfl, rfl, hb, hrel⟩ := hrel
      rcases hrel with ⟨kk, acc, ao, cap, n, rfl, rfl, rfl, hn, hkk, hacc, hown, hR, hg⟩ | ⟨hez, hR, kk, ao, cap, n, rfl, rfl⟩
      · by_cases hl : i < N
        · by_cases hend : kk = s.size
          · have hNi : N - i = (N - i - 1) + 1 := by omega
            rw [hNi, comb_empty _ _ _ _ (by rw [ByteArray.size_extract]; omega)] at hR
            have HRR := Lib.hid hR
            have hN := OwnV.nil wr w.heap.size 9
            have hee : ((kk : Int) == (s.size : Int)) = true := by rw [beq_iff_eq, hend]
            clear hR hown hNi hn
            go_wp2_with fail
            refine bodyPost_ret (results_tmp3 rfl _ _ _) rfl ?_
            rw [← HRR.out]
            exact ⟨none, 0, rfl, hN, hb⟩
          · have hNi : N - i = (N - (i + 1)) + 1 := by omega
            have htz : (s.extract kk s.size).size = s.size - kk := by rw [ByteArray.size_extract]; omega
            have hex := ext_from s kk
            have C := rtextR_any wr (s.extract kk s.size) (by omega)
            have hcs := rt_cases (s.extract kk s.size)
            rw [htz] at hcs
            have hee : ((kk : Int) == (s.size : Int)) = false := by rw [beq_eq_false_iff_ne]; omega
            have hkk0 : (kk : Int) ≤ (s.size : Int) := by omega
            have hB1 : w.heap.size ≤ wr.heap.size := hb.size
            have hbl : (acc.map Value.string).length + 1 ≤ 268435456 := by rw [List.length_map]; omega
            have hnl : n = (acc.map Value.string).length := by rw [List.length_map]; exact hn
            rcases hcs with ⟨e0, he, hr⟩ | ⟨x, m, hr, hm0, hm1, hx⟩
            · rw [hNi, comb_bad _ _ _ _ (by omega) e0 he hr] at hR
              rw [hr] at C
              have HRR := Lib.hid hR
              have HC := Lib.hid C
              have HNL := Lib.hid hnl
              clear hR hr C htz hex hn hnl
              have hyy := heap_alloc_new wr (.cells #[.string emp] 9)
              go_wp2_with (first
                | (go_at_call 37; refine HC.out.mono ?_; rintro e w1 ⟨rfl, rfl⟩; unfold trs)
                | (at_builtin; refine wpList_ownV_append1 rfl (.tmp 39) (.tmp 41) 23 rfl 9 (.string { data := #[] }) 16 und23' info9 rfl (by decide) (hown.alloc _) rfl HNL.out wr.heap.size 1 (.string emp) rfl rfl (by rw [cell_of_row _ _ _ _ _ _ hyy]; rfl) (by omega) (by simp; omega) ?_; intro a3 c3 w3 ho3 hg3))
              have hb3 : Below w.heap.size w w3 := below_ownV (hb.alloc hB1 _) (hown.alloc _) hg3 (Nat.le_refl _) (by simp; omega)
              go_roundg (gk - 1)
              case measure => omega
              case rel => exact ⟨i+1, e0, by omega, by go_num, rfl, hb3, Or.inr ⟨he, HRR.out.symm, _, _, _, _, rfl, rfl⟩⟩
            · rw [hNi, comb_ok _ _ _ _ x m (by omega) hr, hex m (by omega)] at hR
              rw [hr] at C
              have HRR := Lib.hid hR
              have HC := Lib.hid C
              have HNL := Lib.hid hnl
              have HN := Lib.hid hn
              clear hR hr C htz hex hnl hn
              have hyy := heap_alloc_new wr (.cells #[.string x] 9)
              go_wp2_with (first
                | (go_at_call 37; refine HC.out.mono ?_; rintro e w1 ⟨rfl, rfl⟩; unfold trs)
                | (at_builtin; refine wpList_ownV_append1 rfl (.tmp 39) (.tmp 41) 23 rfl 9 (.string { data := #[] }) 16 und23' info9 rfl (by decide) (hown.alloc _) rfl HNL.out wr.heap.size 1 (.string x) rfl rfl (by rw [cell_of_row _ _ _ _ _ _ hyy]; rfl) (by omega) (by simp; omega) ?_; intro a3 c3 w3 ho3 hg3))
              have hb3 : Below w.heap.size w w3 := below_ownV (hb.alloc hB1 _) (hown.alloc _) hg3 (Nat.le_refl _) (by simp; omega)
              rw [← map_str_app] at ho3
              go_roundg (gk - 1)
              case measure => omega
              case rel => exact ⟨i+1, 0, by omega, by go_num, rfl, hb3, Or.inl ⟨kk + m, acc ++ [x], a3, c3, n + 1, rfl, by go_num, rfl, by rw [HN.out]; simp, by omega, by simp; omega, ho3, HRR.out, by omega⟩⟩
        · obtain rfl : i = N := by omega
          rw [Nat.sub_self, comb_zero] at hR
          subst hR
          subst hn
          have HO := Lib.hid hown
          clear hown
          go_wp2_with fail
          refine bodyPost_ret (results_tmp3 rfl _ _ _) rfl ?_
          exact ⟨ao, cap, rfl, HO.out, hb⟩
      · have HRR := Lib.hid hR; clear hR
        have hN := OwnV.nil wr w.heap.size 9
        by_cases hl : i < N
        · rcases hez with rfl | rfl
          all_goals
            go_wp2_with fail
            refine bodyPost_ret (results_tmp3 rfl _ _ _) rfl ?_
            rw [HRR.out]
            exact ⟨none, 0, rfl, hN, hb⟩
        · rcases hez with rfl | rfl
          all_goals
            go_wp2_with fail
            refine bodyPost_ret (results_tmp3 rfl _ _ _) rfl ?_
            rw [HRR.out]
            exact ⟨none, 0, rfl, hN, hb⟩
end Go.Proofs.Ytpjnephiijnpgaa
