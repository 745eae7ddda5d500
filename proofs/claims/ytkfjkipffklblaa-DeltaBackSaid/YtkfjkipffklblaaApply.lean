/-
  The walk of delta.Apply over a patch of pieces.
-/
import Derived.Test.YtkfjkipffklblaaNext
namespace Go.Proofs.Ytkfjkipffklblaa
open Go.RowKit
set_option linter.unusedVariables false

def pB (l : List Q) : List Int := l.flatMap Q.B
def pV (base : List Int) (l : List Q) : List Int := l.flatMap (Q.V base)
theorem pV_snoc (base : List Int) (l : List Q) (q : Q) : pV base (l ++ [q]) = pV base l ++ q.V base := by simp [pV]
theorem pV_app (base : List Int) (l m : List Q) : pV base (l ++ m) = pV base l ++ pV base m := by simp [pV]
theorem pB_app (l m : List Q) : pB (l ++ m) = pB l ++ pB m := by simp [pB]
theorem pV_pos {base : List Int} {l : List Q} (h : ∀ q ∈ l, q.Ok base) (hl : l ≠ []) : 0 < (pV base l).length := by
  cases l with
  | nil => exact absurd rfl hl
  | cons q l =>
    have := Q.V_pos (h q (by simp))
    simp only [pV, List.flatMap_cons, List.length_append]
    omega
theorem strOf_u8 (L : List Int) (h : ∀ c ∈ L, 0 ≤ c ∧ c < 256) : (strOfNums L).data.toList.map (fun b => (b.toNat : Int)) = L := bl_strOf L h
theorem Q.V_u8 {base : List Int} (hb : ∀ c ∈ base, 0 ≤ c ∧ c < 256) (q : Q) : ∀ c ∈ q.V base, 0 ≤ c ∧ c < 256 := by
  unfold Q.V
  split
  · intro c hc; exact hb c (List.mem_of_mem_drop (List.mem_of_mem_take hc))
  · exact bl_u8 _
theorem pV_u8 {base : List Int} (hb : ∀ c ∈ base, 0 ≤ c ∧ c < 256) (l : List Q) : ∀ c ∈ pV base l, 0 ≤ c ∧ c < 256 := by
  intro c hc
  obtain ⟨q, _, hq⟩ := List.mem_flatMap.1 hc
  exact Q.V_u8 hb q c hq

theorem strOfNums_size' (l : List Int) : (strOfNums l).size = l.length := by
  show (strOfNums l).data.size = _
  simp [strOfNums]
/-- What Apply answers, by the size n that the patch says and what stands behind its pieces. -/
def AP (n : Nat) (V tail : List Int) (B : Nat) (ao : Option Addr) (m cap : Nat) (ez : Int) (w' : World) : Prop :=
  (n = V.length → tail = [] → ez = 0 ∧ m = V.length ∧ Own w' B 5 .u8 ao cap V) ∧ (n = V.length → tail ≠ [] → ez = 5 ∧ m = 0) ∧ (n ≠ V.length → ez = 2 ∧ m = 0)

theorem apply_long {w : World} (v : Value) (S : ByteArray) (n : Nat) (R : List Int) (hS : bl S = grp n 64 ++ R) (hn : 4096 < n) (hn2 : n ≤ 9223372036854775807) (hl : S.size ≤ 9223372036854775807) :
    Calls Try.prog 7 #[v, .string S] w fun e w' => e = .returned (.tuple #[.slice none 0 0, .int .i64 6]) ∧ Below w.heap.size w w' := by
  have hln : (grp n 64 ++ R).length ≤ 140737488355328 ∨ True := Or.inr trivial
  have h2 := nmb_grp n (by omega) 64 (Or.inl rfl) R
  rw [← hS, decide_eq_false (by decide)] at h2
  have C := fun (w1 : World) (h : Rdr w1 w.heap.size S) => rcount_ok h hl _ _ h2
  have HC := Lib.hid C
  clear C h2 hS hln
  go_enter Try.func7, Try.ntmps7
  go_wp2_with fail
  refine (over_any S w).mono ?_
  rintro e w1 ⟨rfl, hr1, hb1, hs1⟩
  have C := Lib.hid (HC.out w1 hr1)
  have ho := Onl.set w1 w.heap.size (.string (S.extract (grp n 64).length S.size))
  clear HC hr1 hs1
  go_wp2_with (go_at_call 12; refine C.out.mono ?_; rintro e w2 ⟨rfl, rfl⟩)
  go_ret2
  exact ⟨rfl, ho.below hb1 (Nat.le_refl _)⟩

set_option maxRecDepth 100000 in
set_option maxHeartbeats 1000000 in
theorem apply_any {w : World} (base : List Int) (ao : Option Addr) (b off len cap : Nat) (hA : BytesArg w ao b off len cap base) (hlen : len ≤ 1048576) (S : ByteArray) (n : Nat) (l : List Q) (tail : List Int) (hS : bl S = grp n 64 ++ (pB l ++ tail)) (hok : ∀ q ∈ l, q.Ok base)
    (hn : n ≤ 4096) (hc : n = (pV base l).length ∨ n = (pV base l).length + 1 ∧ tail = []) (hsz : S.size ≤ 16777216) :
    Calls Try.prog 7 #[.slice ao len cap, .string S] w fun e w' => ∃ ao' m' cap' ez, e = .returned (.tuple #[.slice ao' m' cap', .int .i64 ez]) ∧ AP n (pV base l) tail w.heap.size ao' m' cap' ez w' ∧ Below w.heap.size w w' := by
  have h2 := nmb_grp n (by omega) 64 (Or.inl rfl) (pB l ++ tail)
  rw [← hS, decide_eq_false (by decide)] at h2
  have C := fun (w1 : World) (h : Rdr w1 w.heap.size S) => rcount_ok h (by omega) _ _ h2
  have HC := Lib.hid C
  have hcut := bl_cut S _ _ hS
  have hSl := bl_length S
  rw [hS, List.length_append] at hSl
  have hbl : (pB l ++ tail).length ≤ 16777216 := by omega
  have HCUT := Lib.hid hcut
  have HA := Lib.hid hA
  have HOK := Lib.hid hok
  have HCASE := Lib.hid hc
  have hu8 := hA.byte
  have HU8 := Lib.hid hu8
  obtain ⟨V, hV⟩ : ∃ V, pV base l = V := ⟨_, rfl⟩
  rw [hV] at HCASE ⊢
  have HV := Lib.hid hV
  clear C h2 hcut hSl hA hok hc hS hV hu8
  obtain ⟨i0, hi, hz0, hz1, hz2⟩ := info_parts info5
  go_enter Try.func7, Try.ntmps7
  go_wp2_with fail
  refine (over_any S w).mono ?_
  rintro e w1 ⟨rfl, hr1, hb1, hs1⟩
  have C := Lib.hid (HC.out w1 hr1)
  have ho := Onl.set w1 w.heap.size (.string (S.extract (grp n 64).length S.size))
  have hr2 : RdL (w1.setCell ⟨w.heap.size, 0, none⟩ (.string (S.extract (grp n 64).length S.size))) w.heap.size (pB l ++ tail) := ⟨_, hr1.set _, HCUT.out⟩
  have hb2 := ho.below hb1 (Nat.le_refl _)
  obtain ⟨w2, hw2⟩ : ∃ w2, w1.setCell ⟨w.heap.size, 0, none⟩ (.string (S.extract (grp n 64).length S.size)) = w2 := ⟨_, rfl⟩
  rw [hw2] at hr2 hb2 C
  clear HC hr1 ho hw2 HCUT hb1 hs1
  have hlt2 := hr2.lt
  go_wp2_with (first
    | (go_at_call 12; refine C.out.mono ?_; rintro e wa ⟨rfl, rfl⟩)
    | (at_make; refine wpList_make_own _ rfl _ _ 22 rfl (w.heap.size + 1) 5 i0 (.int .u8 0) 1 und38 hi hz0 hz1 .i64 .i64 _ n rfl rfl (by omega) (by rw [hz2]; omega) (by unfold maxLen; omega) hlt2 ?_; intro w3 hown3 hgrow3))
  have hbA : Below wa.heap.size wa w3 := (Below.refl _ _).grown hgrow3 (Nat.le_refl _) (fun b e => by cases e)
  have hr3 := hr2.below hbA hlt2
  have hb3 := hb2.trans (hbA.mono hb2.size)
  have ho3 : Own w3 (w.heap.size + 1) 5 .u8 (some ⟨wa.heap.size, 0, none⟩) n [] := hown3
  clear hown3 hgrow3 hbA hr2 hb2 C
  go_loopg [9] l.length (fun g ov wr => ∃ (done rest : List Q) (ao : Option Addr) (m cap : Nat), l = done ++ rest ∧ rest.length = g ∧ ov = .slice ao m cap ∧ m = (pV base done).length ∧ RdL wr w.heap.size (pB rest ++ tail) ∧ Own wr (w.heap.size + 1) 5 .u8 ao cap (pV base done) ∧ Below w.heap.size w wr)
  case atStart => exact ⟨[], l, _, 0, n, rfl, rfl, rfl, rfl, hr3, ho3, hb3⟩
  case round =>
    clear hr3 ho3 hb3 hlt2
    obtain ⟨done, rest, ao2, m, cap2, hl, hg, rfl, hm, hr, hown, hb⟩ := hrel
    have hVl : V.length = m + (pV base rest).length := by rw [← HV.out, hl, pV_app, List.length_append, hm]
    have hlt := hr.lt
    by_cases hmn : m < n
    · cases rest with
      | nil =>
        have hcase := HCASE.out
        have hVm : V.length = m := by rw [hVl]; rfl
        have hnV : n ≠ V.length := by omega
        have ht : tail = [] := by rcases hcase with h | h; exact absurd h hnV; exact h.2
        subst ht
        have hmi : (m : Int) < (n : Int) := by omega
        have HNV := Lib.hid hnV
        clear hVl hVm hnV hcase hm hmn
        go_wp2_with (go_at_call 13; refine (next_end _ _ hr).mono ?_; rintro e w5 ⟨rfl, rfl⟩)
        go_ret2
        exact ⟨none, 0, 0, 2, rfl, ⟨fun h => absurd h HNV.out, fun h => absurd h HNV.out, fun _ => ⟨rfl, rfl⟩⟩, hb⟩
      | cons q rest =>
        have hq := HOK.out q (by rw [hl]; simp)
        have hpr : (pV base (q :: rest)).length = (q.V base).length + (pV base rest).length := by simp [pV]
        have hBr : pB (q :: rest) ++ tail = q.B ++ (pB rest ++ tail) := by simp [pB]
        have hBl : (q.B ++ (pB rest ++ tail)).length ≤ 16777216 := by
          have h : pB l ++ tail = pB done ++ (q.B ++ (pB rest ++ tail)) := by rw [hl, pB_app, List.append_assoc, hBr]
          have h2 := hbl
          rw [h, List.length_append] at h2
          omega
        rw [hBr] at hr
        rw [hpr] at hVl
        have hmost : ((q.V base).length : Int) ≤ (n : Int) - (m : Int) := by
          rcases HCASE.out with h | h <;> omega
        have hA2 := HA.out.below hb (fun h => (HA.out.at_ h).2)
        have C := Lib.hid (next_ok q ao b off len cap hA2 (fun h => (HA.out.at_ h).2) hlen hq ((n : Int) - (m : Int)) hmost (by omega) (by omega) hr)
        have hvs := pV_snoc base done q
        have hz := strOfNums_size' (q.V base)
        have hst := strOf_u8 (q.V base) (Q.V_u8 HU8.out q)
        have HVS := Lib.hid hvs
        have HM := Lib.hid hm
        have HZ := Lib.hid hz
        have HST := Lib.hid hst
        have HL := Lib.hid hl
        have hmi : (m : Int) < (n : Int) := by omega
        have hlim : (pV base done).length + (q.V base).length < 140737488355328 := by omega
        clear hr hpr hBr hBl hVl hA2 hvs hm hz hst hl hmn hmost hq
        obtain ⟨QV, hQV⟩ : ∃ QV, q.V base = QV := ⟨_, rfl⟩
        rw [hQV] at C HVS HZ HST hlim
        clear hQV
        go_wp2_with (first
          | (go_at_call 13; refine C.out.mono ?_; rintro e w5 ⟨rfl, hr5, ho5⟩; have hown5 := hown.onl ho5 (Nat.lt_succ_self _); have hsz5 : wr.heap.size ≤ w5.heap.size := Nat.le_of_eq ho5.size.symm)
          | (at_builtin; refine wpList_own_text rfl (.tmp 46) (.tmp 47) 22 9 rfl 5 und38 (by kernel_rfl) info5 hown5 rfl HM.out (strOfNums QV) rfl (by rw [HZ.out]; exact hlim) (by omega) ?_; intro a6 c6 w6 ho6 hg6))
        have hb5 := ho5.below hb (Nat.le_refl _)
        have hr6 : RdL w6 w.heap.size (pB rest ++ tail) := hr5.below (B := w.heap.size + 1) (below_own (Below.refl (w.heap.size + 1) _) hown5 hg6 (Nat.le_refl _) (by omega)) (Nat.lt_succ_self _)
        have hb6 : Below w.heap.size w w6 := below_own hb5 hown5 hg6 (by omega) (by omega)
        rw [HST.out, ← HVS.out] at ho6
        go_roundg rest.length
        case measure => rw [← hg]; simp
        case rel => exact ⟨done ++ [q], rest, a6, _, c6, by rw [HL.out]; simp, rfl, rfl, by rw [HVS.out, List.length_append, HZ.out, HM.out], hr6, ho6, hb6⟩
    · have hrest : rest = [] := by
        by_cases h0 : rest = []
        · exact h0
        · have := pV_pos (fun q hq => HOK.out q (by rw [hl]; simp [hq])) h0
          rcases HCASE.out with h | h <;> omega
      subst hrest
      have hdl : l = done := by rw [hl, List.append_nil]
      have hVd : pV base done = V := by rw [← hdl, HV.out]
      rw [hVd] at hown hm
      have hnV : n = V.length := by rcases HCASE.out with h | h <;> omega
      have hnm : n = m := by omega
      have hmi : ¬ ((m : Int) < (n : Int)) := by omega
      have hr' : RdL wr w.heap.size tail := hr
      obtain ⟨s, hrs, hst⟩ := hr'
      have CE := end_any hrs
      have hemp : (s.toList == []) = decide (tail = []) := by
        rw [ByteArray.toList_eq, ← hst]
        unfold bl
        cases hh : s.data.toList with
        | nil => simp
        | cons a t => simp
      rw [hemp] at CE
      have HNV := Lib.hid hnV
      have HM := Lib.hid hm
      have HO := Lib.hid hown
      by_cases ht : tail = []
      · rw [decide_eq_true ht] at CE
        have HCE := Lib.hid CE
        have HT := Lib.hid ht
        clear CE hemp hrs hst hr hVd hdl hl hnV hm hown ht hnm hVl hmn
        go_wp2_with (go_at_call 14; refine HCE.out.mono ?_; rintro e w5 ⟨rfl, rfl⟩)
        go_ret2
        exact ⟨ao2, m, cap2, 0, rfl, ⟨fun _ _ => ⟨rfl, HM.out, HO.out.base (Nat.le_succ _)⟩, fun _ h => absurd HT.out h, fun h => absurd HNV.out h⟩, hb⟩
      · rw [decide_eq_false ht] at CE
        have HCE := Lib.hid CE
        have HT := Lib.hid ht
        clear CE hemp hrs hst hr hVd hdl hl hnV hm hown ht hnm hVl hmn
        go_wp2_with (go_at_call 14; refine HCE.out.mono ?_; rintro e w5 ⟨rfl, rfl⟩)
        go_ret2
        exact ⟨none, 0, 0, 5, rfl, ⟨fun _ h => absurd h HT.out, fun _ _ => ⟨rfl, rfl⟩, fun h => absurd HNV.out h⟩, hb⟩
end Go.Proofs.Ytkfjkipffklblaa
