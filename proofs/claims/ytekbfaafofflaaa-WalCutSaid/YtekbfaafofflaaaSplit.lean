/-
  A record's frame; the records of the whole frames at the beginning of a text; the walks of wal.Frame and wal.Split.
-/
import Derived.Test.YtekbfaafofflaaaCrc
import Derived.Test.YtekbfaafofflaaaOwnV
namespace Go.Proofs.Ytekbfaafofflaaa
open Go.RowKit
set_option linter.unusedVariables false

def FR (s : ByteArray) : ByteArray := strOfNums (tx s) ++ strOfNums (crcT (strOfNums (tx s)))
theorem FR_size (s : ByteArray) : (FR s).size = (tx s).length + 4 := by unfold FR; rw [ByteArray.size_append, strOfNums_size, strOfNums_size]; rfl
set_option maxRecDepth 100000 in
theorem frame_any (w : World) (s : ByteArray) (hs : s.size ≤ 2097152) : Calls Try.prog 6 #[.string s] w fun e w' => e = .returned (.string (FR s)) ∧ Below w.heap.size w w' := by
  have htl := tx_len_le s (by omega)
  go_enter Try.func6, Try.ntmps6
  go_wp2_with fail
  refine (new_any w).mono ?_
  rintro e w1 ⟨rfl, hw1, hb1, hs1⟩
  have C := Lib.hid (text_any hw1 s (by simp; omega))
  clear hw1 hs1
  go_wp2_with (go_at_call 11; refine C.out.mono ?_; rintro e w2 ⟨rfl, hw2, hb2⟩; have BY := Lib.hid (bytes_any hw2))
  refine BY.out.mono ?_
  rintro e w3 ⟨rfl, rfl⟩
  have hb2' := hb1.trans hb2
  have P := put_any w2 (strOfNums (tx s)) (by rw [strOfNums_size]; omega)
  have HP := Lib.hid P
  clear P BY hw2 hb1 hb2 C
  go_wp2_with fail
  refine HP.out.mono ?_
  rintro e w3 ⟨rfl, hb3⟩
  go_wp2_with fail
  go_ret
  exact ⟨rfl, hb2'.trans (hb3.mono hb2'.size)⟩

/-- One whole frame at the head: its record, its bytes. -/
def hd (s : ByteArray) : Option (ByteArray × Nat) :=
  if (rt s).2.2 ≠ 0 then none else if s.size < (rt s).2.1 + 4 then none else if 1048576 < (rt s).1.size then none else if FR (rt s).1 = s.extract 0 ((rt s).2.1 + 4) then some ((rt s).1, (rt s).2.1 + 4) else none
def sp : Nat → ByteArray → List ByteArray × Nat
  | 0, _ => ([], 0)
  | n + 1, s => match hd s with
    | none => ([], 0)
    | some (t, k) => (t :: (sp n (s.extract k s.size)).1, k + (sp n (s.extract k s.size)).2)
theorem sp_none (n : Nat) (s : ByteArray) (h : hd s = none) : sp n s = ([], 0) := by
  cases n with
  | zero => rfl
  | succ n => unfold sp; rw [h]
theorem sp_some (n : Nat) (s t : ByteArray) (k : Nat) (h : hd s = some (t, k)) : sp (n + 1) s = (t :: (sp n (s.extract k s.size)).1, k + (sp n (s.extract k s.size)).2) := by
  conv => lhs; unfold sp
  rw [h]
theorem hd_bad {s : ByteArray} {e0 : Int} (he : e0 = 2 ∨ e0 = 3) (h : rt s = (emp, 0, e0)) : hd s = none := by
  unfold hd; rw [h]; exact if_pos (show e0 ≠ 0 by omega)
theorem hd_short {s t : ByteArray} {k : Nat} (h : rt s = (t, k, 0)) (hl : s.size < k + 4) : hd s = none := by
  unfold hd; rw [h, if_neg (by simp)]; exact if_pos hl
theorem hd_long {s t : ByteArray} {k : Nat} (h : rt s = (t, k, 0)) (hl : k + 4 ≤ s.size) (ht : 1048576 < t.size) : hd s = none := by
  unfold hd; rw [h, if_neg (by simp), if_neg (by show ¬ (s.size < k + 4); omega)]; exact if_pos ht
theorem hd_not {s t : ByteArray} {k : Nat} (h : rt s = (t, k, 0)) (hl : k + 4 ≤ s.size) (ht : t.size ≤ 1048576) (hf : FR t ≠ s.extract 0 (k + 4)) : hd s = none := by
  unfold hd; rw [h, if_neg (by simp), if_neg (by show ¬ (s.size < k + 4); omega), if_neg (by show ¬ (1048576 < t.size); omega)]; exact if_neg hf
theorem hd_ok {s t : ByteArray} {k : Nat} (h : rt s = (t, k, 0)) (hl : k + 4 ≤ s.size) (ht : t.size ≤ 1048576) (hf : FR t = s.extract 0 (k + 4)) : hd s = some (t, k + 4) := by
  unfold hd; rw [h, if_neg (by simp), if_neg (by show ¬ (s.size < k + 4); omega), if_neg (by show ¬ (1048576 < t.size); omega)]; exact if_pos hf

theorem info9 : (Try.prog.info? 9).map (fun i => (i.zero, i.size, i.bytes)) = some (some (.string { data := #[] }), 1, 16) := by kernel_rfl
theorem und22 : Try.prog.underlying 22 = some (.slice 9) := by kernel_rfl
theorem map_str_app (l : List ByteArray) (x : ByteArray) : (l ++ [x]).map Value.string = l.map Value.string ++ [.string x] := by simp

theorem ret_split {R : List ByteArray × Nat} {acc : List ByteArray} {S t n cap : Nat} {ao : Option Addr} (hn : n = acc.length) (ht : t ≤ S) (hR : R = (acc, S - t)) :
    Ending.returned (.tuple #[.slice ao n cap, .int .i64 ((S : Int) - (t : Int))]) = Ending.returned (.tuple #[.slice ao R.1.length cap, .int .i64 R.2]) := by
  subst hn hR
  show _ = Ending.returned (.tuple #[.slice ao acc.length cap, .int .i64 ((S - t : Nat) : Int)])
  rw [show ((S - t : Nat) : Int) = (S : Int) - (t : Int) by omega]
theorem OwnV.onl {w w' : World} {p B : Nat} {e : TypeId} {ao : Option Addr} {cap : Nat} {L : List Value} (h : OwnV w B e ao cap L) (ho : Onl w w' p) (hp : p < B) : OwnV w' B e ao cap L := by
  refine World.ownsRow.kept (row := some p) h ⟨ho.os, ho.tape, ho.output, by rw [ho.size]; exact Nat.le_refl _, fun k hk hne => ho.block k (fun e => hne (by rw [e]))⟩ ?_
  rw [own_ownB]
  cases hv : ownB ao with
  | none => exact Or.inl rfl
  | some b => right; have := h.above b hv; intro e; cases e; omega
theorem OwnV.base {w : World} {B B' : Nat} {e : TypeId} {ao : Option Addr} {cap : Nat} {L : List Value} (h : OwnV w B e ao cap L) (hB : B' ≤ B) : OwnV w B' e ao cap L := Joins.ownsRow_le h hB

set_option maxRecDepth 100000 in
set_option maxHeartbeats 4000000 in
theorem split_any (w : World) (S : ByteArray) (hS : S.size ≤ 16777216) : Calls Try.prog 7 #[.string S] w fun e w' =>
    ∃ ao cap, e = .returned (.tuple #[.slice ao (sp S.size S).1.length cap, .int .i64 (sp S.size S).2]) ∧ OwnV w' w.heap.size 9 ao cap ((sp S.size S).1.map Value.string) ∧ Below w.heap.size w w' := by
  obtain ⟨R, hR⟩ : ∃ R, sp S.size S = R := ⟨_, rfl⟩
  rw [hR]
  have HR := Lib.hid hR
  clear hR
  go_enter Try.func7, Try.ntmps7
  go_wp2_with fail
  refine (over_any S w).mono ?_
  rintro e w1 ⟨rfl, hr1, hb1, hs1⟩
  go_wp2_with fail
  go_loopg [4] S.size (fun g lv X => ∃ (t : ByteArray) (acc : List ByteArray) (ao : Option Addr) (cap n : Nat), lv = .slice ao n cap ∧ n = acc.length ∧ OwnV X (w.heap.size + 1) 9 ao cap (acc.map Value.string) ∧ Rdr X w.heap.size t ∧ t.size ≤ S.size ∧ acc.length + t.size ≤ S.size ∧ t.size ≤ g ∧
    R = (acc ++ (sp g t).1, S.size - t.size + (sp g t).2) ∧ Below w.heap.size w X)
  case atStart => exact ⟨S, [], none, 0, 0, rfl, rfl, OwnV.nil _ _ _, hr1, Nat.le_refl _, by simp, Nat.le_refl _, by rw [← HR.out]; simp, hb1⟩
  case round =>
    clear hr1 hb1 hs1
    obtain ⟨t, acc, ao, cap, n, rfl, hn, ho, hr, hts, hat, htg, hRR, hb⟩ := hrel
    have HN := Lib.hid hn; have HO := Lib.hid ho; have HRR := Lib.hid hRR; have HRd := Lib.hid hr
    have hlt := hr.lt
    have RE := Lib.hid (rest_any hr)
    have TX := rtext_all hr (by omega)
    clear hn ho hRR hr
    rcases rt_cases t with ⟨e0, he, hrt⟩ | ⟨x, k, hrt, hk0, hkt, hxk⟩
    · have hsp := sp_none gk t (hd_bad he hrt)
      rw [hrt] at TX
      have HTX := Lib.hid TX
      have HSP := Lib.hid hsp
      clear TX hsp hrt
      rcases he with rfl | rfl
      all_goals
        go_wp2_with (first
          | (go_at_call 15; refine RE.out.mono ?_; rintro e w2 ⟨rfl, rfl⟩)
          | (go_at_call 16; refine HTX.out.mono ?_; rintro e w2 ⟨rfl, hr2, ho2⟩))
        have hR2 : R = (acc, S.size - t.size) := by rw [HRR.out, HSP.out]; simp
        go_ret2
        exact ⟨ao, cap, ret_split HN.out hts hR2, by rw [hR2]; exact (HO.out.onl ho2 (Nat.lt_succ_self _)).base (Nat.le_succ _), ho2.below hb (Nat.le_refl _)⟩
    · rw [hrt] at TX
      have HTX := Lib.hid TX
      have hcs : (t.extract k t.size).size = t.size - k := by rw [ByteArray.size_extract]; omega
      clear TX
      by_cases h4 : t.size < k + 4
      · have hsp := sp_none gk t (hd_short hrt h4)
        have RW := fun (X : World) (h : Rdr X w.heap.size (t.extract k t.size)) => rraw_short h 4 (by rw [hcs]; omega)
        have HRW := Lib.hid RW
        have HSP := Lib.hid hsp
        clear RW hsp hrt hcs
        go_wp2_with (first
          | (go_at_call 15; refine RE.out.mono ?_; rintro e w2 ⟨rfl, rfl⟩)
          | (go_at_call 16; refine HTX.out.mono ?_; rintro e w2 ⟨rfl, hr2, ho2⟩)
          | (go_at_call 17; refine (HRW.out _ hr2).mono ?_; rintro e w3 ⟨rfl, rfl⟩))
        have hR2 : R = (acc, S.size - t.size) := by rw [HRR.out, HSP.out]; simp
        go_ret2
        exact ⟨ao, cap, ret_split HN.out hts hR2, by rw [hR2]; exact (HO.out.onl ho2 (Nat.lt_succ_self _)).base (Nat.le_succ _), ho2.below hb (Nat.le_refl _)⟩
      · have RW := fun (X : World) (h : Rdr X w.heap.size (t.extract k t.size)) => rraw_ok h 4 (by rw [hcs]; omega)
        have hee : (t.extract k t.size).extract 4 (t.extract k t.size).size = t.extract (k + 4) t.size := by rw [hcs]; exact ext_ext t k 4 (by omega)
        rw [hee] at RW
        have HRW := Lib.hid RW
        clear RW hee hcs
        by_cases hbig : 1048576 < x.size
        · have hsp := sp_none gk t (hd_long hrt (by omega) hbig)
          have hbigi : (1048576 : Int) < (x.size : Int) := by omega
          have HSP := Lib.hid hsp
          clear hsp hrt
          go_wp2_with (first
            | (go_at_call 15; refine RE.out.mono ?_; rintro e w2 ⟨rfl, rfl⟩)
            | (go_at_call 16; refine HTX.out.mono ?_; rintro e w2 ⟨rfl, hr2, ho2⟩)
            | (go_at_call 17; refine (HRW.out _ hr2).mono ?_; rintro e w3 ⟨rfl, rfl⟩))
          have hR2 : R = (acc, S.size - t.size) := by rw [HRR.out, HSP.out]; simp
          have ho3 := ho2.trans (Onl.set w2 w.heap.size (.string (t.extract (k + 4) t.size)))
          go_ret2
          exact ⟨ao, cap, ret_split HN.out hts hR2, by rw [hR2]; exact (HO.out.onl ho3 (Nat.lt_succ_self _)).base (Nat.le_succ _), ho3.below hb (Nat.le_refl _)⟩
        · have hbigi : ¬ ((1048576 : Int) < (x.size : Int)) := by omega
          go_wp2_with (first
            | (go_at_call 15; refine RE.out.mono ?_; rintro e w2 ⟨rfl, rfl⟩)
            | (go_at_call 16; refine HTX.out.mono ?_; rintro e w2 ⟨rfl, hr2, ho2⟩)
            | (go_at_call 17; refine (HRW.out _ hr2).mono ?_; rintro e w3 ⟨rfl, rfl⟩))
          have ho3 := ho2.trans (Onl.set w2 w.heap.size (.string (t.extract (k + 4) t.size)))
          have hr3 := hr2.set (t.extract (k + 4) t.size)
          obtain ⟨w3, hw3⟩ : ∃ w3, w2.setCell ⟨w.heap.size, 0, none⟩ (.string (t.extract (k + 4) t.size)) = w3 := ⟨_, rfl⟩
          rw [hw3] at ho3 hr3 ⊢
          clear hw3
          have hb3 := ho3.below hb (Nat.le_refl _)
          refine (frame_any w3 x (by omega)).mono ?_
          rintro e w4 ⟨rfl, hb4⟩
          have hr4 := hr3.below hb4 hr3.lt
          have hO4 := (HO.out.onl ho3 (Nat.lt_succ_self _)).below hb4
          have hb4' := hb3.trans (hb4.mono hb3.size)
          have RE2 := Lib.hid (rest_any hr4)
          have hes : (t.extract (k + 4) t.size).size = t.size - (k + 4) := by rw [ByteArray.size_extract]; omega
          obtain ⟨r2, hr2e⟩ : ∃ r2, t.extract (k + 4) t.size = r2 := ⟨_, rfl⟩
          rw [hr2e] at hes RE2 hr4
          have hq : (t.size : Int) - (r2.size : Int) = ((k + 4 : Nat) : Int) := by omega
          have hq2 : ((k + 4 : Nat) : Int) ≤ (t.size : Int) := by omega
          have HR2E := Lib.hid hr2e
          have HO4 := Lib.hid hO4
          have HR4 := Lib.hid hr4
          obtain ⟨F, hF⟩ : ∃ F, FR x = F := ⟨_, rfl⟩
          rw [hF]
          have HF := Lib.hid hF
          obtain ⟨G, hG⟩ : ∃ G, t.extract 0 (k + 4) = G := ⟨_, rfl⟩
          obtain ⟨K4, hK4⟩ : ∃ K, k + 4 = K := ⟨_, rfl⟩
          rw [hK4] at hq hq2 hG
          have HG := Lib.hid hG
          clear hF hr2e hes hO4 hr4 hb3 hr3 ho3 hr2 ho2 hb4
          by_cases hFG : F = G
          · have hcmp : (F.toList == G.toList) = true := by rw [hFG, beq_iff_eq]
            have hsm := hd_ok hrt (by omega) (by omega) (by rw [HF.out, hFG, hK4, HG.out])
            have hsp := sp_some (gk - 1) t x (k + 4) hsm
            rw [show gk - 1 + 1 = gk by omega, HR2E.out, hK4] at hsp
            have HSP := Lib.hid hsp
            have hHN : n = (acc.map Value.string).length := by rw [List.length_map]; exact HN.out
            have HHN := Lib.hid hHN
            have hyy := cell_of_row _ w4.heap.size 0 _ _ _ (heap_alloc_new w4 (.cells #[.string x] 9))
            have hlen : (acc.map Value.string).length + 1 ≤ 16777217 := by rw [List.length_map]; omega
            have hb4s := hb4'.size
            have hw4 := HR4.out.lt
            have hr2s : r2.size + K4 ≤ t.size := by omega
            have hk45 : 4 < K4 := by omega
            clear hFG hsm hsp hHN hrt hK4
            go_wp2_with (first
              | (go_at_call 15; refine RE2.out.mono ?_; rintro e w5 ⟨rfl, rfl⟩)
              | (at_builtin; go_loud (refine wpList_ownV_append1 rfl (.tmp 51) (.tmp 53) 22 rfl 9 (.string { data := #[] }) 16 und22 info9 rfl (by decide) (HO4.out.alloc _) rfl HHN.out w4.heap.size 1 (.string x) rfl rfl hyy (by omega) (by simp; omega) ?_; intro a6 c6 w6 ho6 hg6)))
            have hb6 : Below w.heap.size w w6 := below_ownV (hb4'.alloc hb4s _) (HO4.out.alloc _) hg6 (by omega) (by simp; omega)
            have hr6 : Rdr w6 w.heap.size r2 := (HR4.out.below ((Below.refl _ _).alloc (Nat.le_refl _) (.cells #[.string x] 9)) hw4).below (B := w.heap.size + 1) (below_ownV (Below.refl (w.heap.size + 1) _) (HO4.out.alloc _) hg6 (Nat.le_refl _) (by simp; omega)) (Nat.lt_succ_self _)
            rw [← map_str_app] at ho6
            go_roundg (gk - 1)
            case measure => omega
            case rel =>
              refine ⟨r2, acc ++ [x], a6, c6, n + 1, rfl, by rw [HN.out]; simp, ho6, hr6, by omega, by simp; omega, by omega, ?_, hb6⟩
              rw [HRR.out, HSP.out]
              simp only [List.append_assoc, List.cons_append, List.nil_append, Prod.mk.injEq, true_and]
              omega
          · have hcmp : (F.toList == G.toList) = false := by
              rw [beq_eq_false_iff_ne]
              intro h
              rw [ByteArray.toList_eq, ByteArray.toList_eq] at h
              exact hFG (ByteArray.ext (Array.ext' h))
            have hsp := sp_none gk t (hd_not hrt (by omega) (by omega) (by rw [HF.out, hK4, HG.out]; exact hFG))
            have HSP := Lib.hid hsp
            clear hFG hsp hrt hK4
            go_wp2_with (go_at_call 15; refine RE2.out.mono ?_; rintro e w5 ⟨rfl, rfl⟩)
            have hR2 : R = (acc, S.size - t.size) := by rw [HRR.out, HSP.out]; simp
            go_ret2
            exact ⟨ao, cap, ret_split HN.out hts hR2, by rw [hR2]; exact HO4.out.base (Nat.le_succ _), hb4'⟩
end Go.Proofs.Ytekbfaafofflaaa
