/-
  The walks of six.PutList[string], six.TakeList[string] and of silolaw01.SixLists.
-/
import Derived.Test.YtpjnephiijnpgaaTake
import Derived.Test.YtpjnephiijnpgaaRefw
namespace Go.Proofs.Ytpjnephiijnpgaa
open Go.RowKit
set_option linter.unusedVariables false

theorem put1_any {w : World} {p : Nat} {L : List Int} (h : Wrt w p L) (s : ByteArray) (hl : L.length + 11 + s.size < 140737488355328) :
    Calls Try.prog 22 #[.pointer (some ⟨p, 0, none⟩), .string s] w fun e w' => e = .returned (.tuple #[]) ∧ Wrt w' p (L ++ tx s) ∧ Below p w w' := by
  have W := Lib.hid (w_text h s hl)
  go_enter Try.func22, Try.ntmps22
  go_wp2_with (go_at_call 10; refine W.out.mono ?_; rintro e w1 ⟨rfl, hw, hb⟩)
  go_end0
  exact ⟨rfl, hw, hb⟩
theorem take1_any {w : World} {p : Nat} {s : ByteArray} (h : Rdr w p s) (hs : s.size ≤ 9223372036854775807) :
    Calls Try.prog 23 #[.pointer (some ⟨p, 0, none⟩)] w fun e w' => e = .returned (.tuple #[.string (rt s).1, .int .i64 (rt s).2.2]) ∧ Rdr w' p (s.extract (rt s).2.1 s.size) ∧ Onl w w' p := by
  have W := Lib.hid (rtext_all h hs)
  go_enter Try.func23, Try.ntmps23
  go_wp2_with (go_at_call 14; refine W.out.mono ?_; rintro e w1 ⟨rfl, hr, ho⟩)
  go_ret2
  exact ⟨rfl, hr, ho⟩

set_option maxRecDepth 100000 in
set_option maxHeartbeats 1000000 in
theorem plist_any {w : World} {p : Nat} (h : Wrt w p []) (ao : Option Addr) (b off len cap : Nat) (T : Nat → ByteArray) (hT : TextArg w ao b off len T) (hbp : 0 < len → b < p) (hlen : len ≤ 1048576) (hT1 : ∀ i, i < len → (T i).size ≤ 1048576)
    (hT2 : (upto (fun j => tx (T j)) len).length ≤ 134217728) :
    Calls Try.prog 21 #[.pointer (some ⟨p, 0, none⟩), .slice ao len cap, .func (.func 22) #[] #[]] w fun e w' => e = .returned (.int .i64 0) ∧ Wrt w' p (grp len 64 ++ upto (fun j => tx (T j)) len) ∧ Below p w w' := by
  have q1 : ∀ w, (binOp .eql 44 (.func (.func 22) #[] #[]) .nilFunc).run Try.prog w = .ok (.bool false) w := fun _ => by kernel_rfl
  obtain ⟨FT, hFT⟩ : ∃ FT, FT = fun j => tx (T j) := ⟨_, rfl⟩
  rw [← hFT] at hT2 ⊢
  have HFT : ∀ j, FT j = tx (T j) := fun j => by rw [hFT]
  clear hFT
  have HT := Lib.hid hT; clear hT
  have HFT' := Lib.hid HFT; clear HFT
  have HT1 := Lib.hid hT1; clear hT1
  have HBP := Lib.hid hbp; clear hbp
  have C := Lib.hid (count_any h len (by omega) (by simp))
  have hgl := grp_len_le len (by omega) 64
  go_enter Try.func21, Try.ntmps21
  go_wp2_with (go_at_call 17; refine C.out.mono ?_; rintro e w1 ⟨rfl, hw1, hb1⟩; rw [List.nil_append] at hw1)
  go_loopg [21] len (fun g v wr => ∃ i : Nat, i + g = len ∧ v = .int .i64 i ∧ Wrt wr p (grp len 64 ++ upto FT i) ∧ Below p w wr)
  case atStart => exact ⟨0, by omega, rfl, by rw [upto_zero, List.append_nil]; exact hw1, hb1⟩
  case round =>
    clear hw1 hb1
    obtain ⟨i, hi, rfl, hw, hb⟩ := hrel
    by_cases hl : i < len
    · obtain ⟨rfl, hbw⟩ := HT.out.at_ (by omega)
      have ci := (hb.cell (p := ⟨b, off + i, none⟩) (HBP.out (by omega))).trans (HT.out.cell i hl)
      have hki := HT1.out i hl
      have hul := upto_mono FT len i (by omega)
      have W := put1_any hw (T i) (by rw [List.length_append]; omega)
      rw [← HFT'.out, List.append_assoc, ← upto_succ] at W
      have HW := Lib.hid W
      obtain ⟨x, hx⟩ : ∃ x, T i = x := ⟨_, rfl⟩
      rw [hx] at ci HW
      clear hx hki W hul
      go_wp2_with (go_at_call 22; refine HW.out.mono ?_; rintro e w2 ⟨rfl, hw2, hb2⟩)
      go_roundg (len - (i+1))
      case measure => omega
      case rel => exact ⟨i+1, by omega, by go_num, hw2, hb.trans hb2⟩
    · obtain rfl : i = len := by omega
      go_wp2_with fail
      go_ret
      exact ⟨rfl, hw, hb⟩

theorem OwnV.onl {w w' : World} {p B : Nat} {e : TypeId} {ao : Option Addr} {cap : Nat} {L : List Value} (h : OwnV w B e ao cap L) (ho : Onl w w' p) (hp : p < B) : OwnV w' B e ao cap L := by
  refine World.ownsRow.kept (row := some p) h ⟨ho.os, ho.tape, ho.output, by rw [ho.size]; exact Nat.le_refl _, fun k hk hne => ho.block k (fun e => hne (by rw [e]))⟩ ?_
  rw [own_ownB]
  cases hv : ownB ao with
  | none => exact Or.inl rfl
  | some b => right; have := h.above b hv; intro e; cases e; omega
theorem Rdr.onl {w w' : World} {p : Nat} {s : ByteArray} (h : Rdr w p s) (ho : Onl w w' p) {q : Nat} {t : ByteArray} (hq : q ≠ p) (h2 : Rdr w q t) : Rdr w' q t := (ho.block q hq).trans h2

set_option maxRecDepth 100000 in
set_option maxHeartbeats 1000000 in
theorem tlist_any {w : World} {p : Nat} {s : ByteArray} (h : Rdr w p s) (hs : s.size ≤ 268435456) :
    Calls Try.prog 24 #[.pointer (some ⟨p, 0, none⟩), .func (.func 23) #[] #[]] w fun e w' =>
    ∃ ao cap, e = .returned (.tuple #[.slice ao (txtsOf s).1.length cap, .int .i64 (txtsOf s).2.2]) ∧ OwnV w' (p + 1) 9 ao cap ((txtsOf s).1.map Value.string) ∧ Rdr w' p (s.extract (txtsOf s).2.1 s.size) ∧ Below p w w' := by
  have q1 : ∀ w, (binOp .eql 45 (.func (.func 23) #[] #[]) .nilFunc).run Try.prog w = .ok (.bool false) w := fun _ => by kernel_rfl
  have C := rcount_all h (by omega)
  have hlt := h.lt
  have H := Lib.hid h
  obtain ⟨R, hR⟩ : ∃ R, txtsOf s = R := ⟨_, rfl⟩
  rw [hR]
  have hc := h.cell
  clear h
  rcases rc_cases s with ⟨e0, he, h⟩ | ⟨N, k, h, hn, h1, h2, h3⟩
  · rw [txtsOf_bad he h] at hR
    subst hR
    rw [h] at C
    have HC := Lib.hid C
    clear C h
    rcases he with rfl | rfl
    all_goals
      go_enter Try.func24, Try.ntmps24
      go_wp2_with (go_at_call 27; refine HC.out.mono ?_; rintro e w1 ⟨rfl, hr1, ho1⟩)
      refine wp_loop_rounds 1 ?_
      rw [rounds_succ]
      rw [ext_all] at hr1
      have hc1 := hr1.cell
      have hf1 := hr1.thaw
      go_wp2_with fail
      go_ret2
      exact ⟨none, 0, rfl, OwnV.nil _ _ _, by rw [ext_all]; exact hr1.set _, (ho1.trans (Onl.set _ _ _)).below (Below.refl _ _) (Nat.le_refl _)⟩
  · rw [txtsOf_ok h] at hR
    rw [h] at C
    have HC := Lib.hid C
    have HR := Lib.hid hR
    clear C h hn hR
    go_enter Try.func24, Try.ntmps24
    go_wp2_with (go_at_call 27; refine HC.out.mono ?_; rintro e w1 ⟨rfl, hr1, ho1⟩)
    have hb1 := ho1.below (Below.refl _ _) (Nat.le_refl _)
    go_loopg [8, 9, 10] (s.size + 2) (fun g ev ov iv wr => ∃ (i : Nat) (ez : Int) (t : ByteArray), i ≤ N ∧ iv = .int .i64 i ∧ ev = .int .i64 ez ∧ Below p w wr ∧ Rdr wr p t ∧
      ((∃ (kk : Nat) (acc : List ByteArray) (ao : Option Addr) (cap n : Nat), ez = 0 ∧ t = s.extract kk s.size ∧ ov = .slice ao n cap ∧ n = acc.length ∧ kk ≤ s.size ∧ acc.length ≤ kk ∧ OwnV wr (p + 1) 9 ao cap (acc.map Value.string) ∧
          comb acc kk (tk (N - i) t) = R ∧ s.size - kk < g) ∨
       ((ez = 2 ∨ ez = 3) ∧ R = ([], 0, ez) ∧ ∃ (ao : Option Addr) (cap n : Nat), ov = .slice ao n cap)))
    case atStart => exact ⟨0, 0, _, by omega, rfl, rfl, hb1, hr1, Or.inl ⟨k, [], none, 0, 0, rfl, rfl, rfl, rfl, h3, Nat.zero_le _, OwnV.nil _ _ _, HR.out, by omega⟩⟩
    case round =>
      clear hr1 ho1 hb1
      obtain ⟨i, ez, t, hi, rfl, rfl, hb, hr, hrel⟩ := hrel
      have hct := hr.cell
      have hft := hr.thaw
      have hltr := hr.lt
      rcases hrel with ⟨kk, acc, ao, cap, n, rfl, ht, rfl, hn, hkk, hacc, hown, hR, hg⟩ | ⟨hez, hR, ao, cap, n, rfl⟩
      · have HRD := Lib.hid hr
        have HTT := Lib.hid ht
        have htz : t.size = s.size - kk := by rw [ht, ByteArray.size_extract]; omega
        clear ht
        by_cases hl : i < N
        · have hemp := toList_emp t
          by_cases hend : kk = s.size
          · have hNi : N - i = (N - (i + 1)) + 1 := by omega
            rw [hNi, comb_empty _ _ _ _ (by omega)] at hR
            rw [decide_eq_true (by omega)] at hemp
            have HRR := Lib.hid hR
            clear hR hNi hn hr
            go_wp2_with fail
            go_roundg (gk - 1)
            case measure => omega
            case rel => exact ⟨i+1, 2, t, by omega, by go_num, rfl, hb, HRD.out, Or.inr ⟨Or.inl rfl, HRR.out.symm, _, _, _, rfl⟩⟩
          · have hNi : N - i = (N - (i + 1)) + 1 := by omega
            rw [decide_eq_false (by omega)] at hemp
            have C := take1_any hr (by omega)
            have hcs := rt_cases t
            have hB1 : p + 1 ≤ wr.heap.size := hltr
            have hbl : (acc.map Value.string).length + 1 ≤ 268435456 := by rw [List.length_map]; omega
            have hnl : n = (acc.map Value.string).length := by rw [List.length_map]; exact hn
            rcases hcs with ⟨e0, he, hr0⟩ | ⟨x, m, hr0, hm0, hm1, hx⟩
            · rw [hNi, comb_bad _ _ _ _ (by omega) e0 he hr0] at hR
              rw [hr0] at C
              have HRR := Lib.hid hR
              have HC := Lib.hid C
              clear hR hr0 C hn hnl hNi hr
              rcases he with rfl | rfl
              all_goals
                go_wp2_with (go_at_call 23; refine HC.out.mono ?_; rintro e w2 ⟨rfl, hr2, ho2⟩)
                go_roundg (gk - 1)
                case measure => omega
                case rel => exact ⟨i+1, _, _, by omega, by go_num, rfl, ho2.below hb (Nat.le_refl _), hr2, Or.inr ⟨by omega, HRR.out.symm, _, _, _, rfl⟩⟩
            · rw [hNi, comb_ok _ _ _ _ x m (by omega) hr0] at hR
              rw [hr0] at C
              have htm : t.extract m t.size = s.extract (kk + m) s.size := by rw [HTT.out]; exact ext_from s kk m (by omega)
              have HRR := Lib.hid hR
              have HC := Lib.hid C
              have HNL := Lib.hid hnl
              have HN := Lib.hid hn
              have HTM := Lib.hid htm
              have HO := Lib.hid hown
              clear hR hr0 C hn hnl hNi hr htm hown
              have hyy : ∀ w2 : World, (w2.alloc (.cells #[.string x] 9)).cell? ⟨w2.heap.size, 0, none⟩ = some (.string x) := fun w2 => by rw [cell_of_row _ _ _ _ _ _ (heap_alloc_new w2 (.cells #[.string x] 9))]; rfl
              have HYY := Lib.hid hyy
              clear hyy
              go_wp2_with (first
                | (go_at_call 23; refine HC.out.mono ?_; rintro e w2 ⟨rfl, hr2, ho2⟩; have hown2 := HO.out.onl ho2 (Nat.lt_succ_self _); have hsz2 := Nat.le_of_eq ho2.size.symm)
                | (at_builtin; refine wpList_ownV_append1 rfl (.tmp 49) (.tmp 51) 23 rfl 9 (.string { data := #[] }) 16 und23' info9 rfl (by decide) (hown2.alloc _) rfl HNL.out w2.heap.size 1 (.string x) rfl rfl (HYY.out w2) (by omega) (by simp; omega) ?_; intro a3 c3 w3 ho3 hg3))
              have hb2 := ho2.below hb (Nat.le_refl _)
              have hb23 : Below w2.heap.size w2 (w2.alloc (.cells #[.string x] 9)) := (Below.refl _ _).alloc (Nat.le_refl _) _
              have hb3 : Below p w w3 := below_ownV (hb2.trans (hb23.mono (by omega))) (hown2.alloc _) hg3 (by omega) (by simp; omega)
              have hr3 : Rdr w3 p (t.extract m t.size) := (hr2.below hb23 hr2.lt).below (B := p + 1) (below_ownV (Below.refl (p + 1) _) (hown2.alloc _) hg3 (Nat.le_refl _) (by simp; omega)) (Nat.lt_succ_self _)
              rw [← map_str_app] at ho3
              have hg2 : s.size - (kk + m) < gk - 1 := by omega
              go_roundg (gk - 1)
              case measure => omega
              case rel => exact ⟨i+1, 0, _, by omega, by go_num, rfl, hb3, hr3, Or.inl ⟨kk + m, acc ++ [x], a3, c3, n + 1, rfl, HTM.out, rfl, by rw [HN.out]; simp, by omega, by simp; omega, ho3, HRR.out, hg2⟩⟩
        · obtain rfl : i = N := by omega
          rw [Nat.sub_self, comb_zero] at hR
          subst hR
          subst hn
          have HO := Lib.hid hown
          clear hown
          go_wp2_with fail
          go_ret2
          exact ⟨ao, cap, rfl, HO.out, HTT.out ▸ HRD.out, hb⟩
      · have HRR := Lib.hid hR; clear hR
        have hN := OwnV.nil (wr.setCell ⟨p, 0, none⟩ (.string s)) (p + 1) 9
        have HRD := Lib.hid (hr.put s)
        clear hr
        by_cases hl : i < N
        · rcases hez with rfl | rfl
          all_goals
            go_wp2_with fail
            go_ret2
            rw [HRR.out]
            exact ⟨none, 0, rfl, hN, by rw [ext_all]; exact HRD.out.1, hb.trans HRD.out.2⟩
        · rcases hez with rfl | rfl
          all_goals
            go_wp2_with fail
            go_ret2
            rw [HRR.out]
            exact ⟨none, 0, rfl, hN, by rw [ext_all]; exact HRD.out.1, hb.trans HRD.out.2⟩
end Go.Proofs.Ytpjnephiijnpgaa
