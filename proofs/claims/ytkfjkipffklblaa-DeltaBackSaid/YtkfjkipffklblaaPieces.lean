/-
  The walk of silolaw19.DeltaPieces.
-/
import Derived.Test.YtkfjkipffklblaaOwnQ
namespace Go.Proofs.Ytkfjkipffklblaa
open Go.RowKit
set_option linter.unusedVariables false

theorem toList_emp (t : ByteArray) : (t.toList == []) = decide (t.size = 0) := by
  rw [ByteArray.toList_eq]
  have e : t.data.toList.length = t.size := by rw [Array.length_toList]; rfl
  cases h : t.data.toList with
  | nil => rw [h] at e; simp at e; simp [← e]
  | cons a l => rw [h] at e; simp at e; simp [← e]
theorem upto_getD (f : Q → List Int) (l : List Q) (d : Q) : upto (fun i => f (l.getD i d)) l.length = l.flatMap f := by
  unfold upto
  have h : (List.range l.length).map (fun i => l.getD i d) = l := by
    apply List.ext_getElem
    · simp
    · intro i h1 h2
      simp [List.getD_eq_getElem?_getD, List.getElem?_eq_getElem h2]
  conv => rhs; rw [← h]
  rw [List.flatMap_map]
theorem pB_len (l : List Q) {base : List Int} (h : ∀ x ∈ l, x.Ok base) (hb : base.length ≤ 9000) (ht : ∀ x ∈ l, x.tx.size ≤ 9000) : (pB l).length ≤ l.length * 9022 := by
  induction l with
  | nil => simp [pB]
  | cons q l ih =>
    have h1 := h q (by simp)
    have h2 := ht q (by simp)
    have h3 := ih (fun x hx => h x (by simp [hx])) (fun x hx => ht x (by simp [hx]))
    have hB : q.B.length ≤ 9022 := by
      unfold Q.Ok at h1
      unfold Q.B
      cases hc : q.cp
      · simp only [Bool.false_eq_true, if_false, List.length_append, bl_length]
        have := grp_len_le (2 * q.tx.size) (by omega) 64
        omega
      · rw [hc] at h1
        simp only [if_true] at h1 ⊢
        rw [List.length_append]
        have e1 := grp_len_le (2 * q.ln.toNat + 1) (by omega) 64
        have e2 := grp_len_le q.at_.toNat (by omega) 64
        omega
    simp only [pB, List.flatMap_cons, List.length_append, List.length_cons] at h3 ⊢
    rw [Nat.succ_mul]
    omega
theorem pB_u8 (l : List Q) : ∀ c ∈ pB l, 0 ≤ c ∧ c < 256 := by
  intro c hc
  obtain ⟨q, _, hq⟩ := List.mem_flatMap.1 hc
  unfold Q.B at hq
  split at hq
  · rcases List.mem_append.1 hq with h | h <;> exact grp_u8 _ _ (Or.inl rfl) c h
  · rcases List.mem_append.1 hq with h | h
    · exact grp_u8 _ _ (Or.inl rfl) c h
    · exact bl_u8 _ c h
theorem alloc2_cell (w : World) (o : Obj) (c : Array Value) (t : TypeId) (f : Nat) : ((w.alloc o).alloc (.cells c t)).cell? ⟨w.heap.size + 1, f, none⟩ = c[f]? := by
  have h := heap_alloc_new (w.alloc o) (.cells c t)
  rw [show (w.alloc o).heap.size = w.heap.size + 1 by simp] at h
  rw [cell_of_row _ _ _ _ _ _ h]

theorem alloc2_q (w : World) (o : Obj) (q : Q) : ∀ f v, q.cells[f]? = some v → ((w.alloc o).alloc (.cells #[.bool q.cp, .int .i64 q.at_, .string q.tx, .int .i64 q.ln] 26)).cell? ⟨w.heap.size + 1, f, none⟩ = some v := by
  intro f v h
  rw [alloc2_cell, ← h]
  unfold Q.cells
  simp

set_option maxRecDepth 100000 in
set_option maxHeartbeats 4000000 in
theorem pieces_any (w : World) (ao : Option Addr) (b off len cap : Nat) (L : List Int) (hA : BytesArg w ao b off len cap L) (hl9 : len ≤ 9000) (ao2 : Option Addr) (b2 off2 n2 cap2 : Nat) (q : Nat → Q) (hQ : QArg w ao2 b2 off2 n2 q) (hn2 : n2 ≤ 300) :
    Calls Try.prog 3 #[.slice ao len cap, .slice ao2 n2 cap2] w fun e w' => e = .returned (.bool true) ∧ Below w.heap.size w w' := by
  have HA := Lib.hid hA; clear hA
  have HQ := Lib.hid hQ; clear hQ
  go_enter Try.func3, Try.ntmps3
  go_wp2_with fail
  refine (awake_any w).mono ?_
  rintro e w1 ⟨rfl, hb1⟩
  go_wp2_with fail
  go_loopg [5, 6, 7] n2 (fun g z ov v wr => ∃ (i : Nat) (ps : List Q) (ao : Option Addr) (m cap : Nat), i + g = n2 ∧ v = .int .i64 i ∧ z = .string (strOfNums (pV L ps)) ∧ ov = .slice ao m cap ∧ m = ps.length ∧ OwnQ wr w.heap.size ao cap ps ∧
    (∀ x ∈ ps, x.Ok L ∧ x.tx.size ≤ 9000) ∧ ps.length ≤ i ∧ (pV L ps).length ≤ 13100 ∧ Below w.heap.size w wr)
  case atStart => exact ⟨0, [], none, 0, 0, by omega, rfl, rfl, rfl, rfl, OwnQ.nil _ _, (fun x hx => by cases hx), Nat.le_refl _, Nat.zero_le _, hb1⟩
  case round =>
    clear hb1
    obtain ⟨i, ps, ao3, m, cap3, hi, rfl, rfl, rfl, hm, ho, hok, hpl, hVl, hb⟩ := hrel
    by_cases hl : i < n2
    · obtain ⟨rfl, hbw⟩ := HQ.out.at_ (by omega)
      have hQ2 := HQ.out.below hb (fun _ => hbw)
      have c0 := hQ2.c0 i hl
      have c1 := hQ2.c1 i hl
      have c2 := hQ2.c2 i hl
      have c3 := hQ2.c3 i hl
      obtain ⟨x, hx⟩ : ∃ x, q i = x := ⟨_, rfl⟩
      rw [hx] at c0 c1 c2 c3
      obtain ⟨cp, at_, tx_, ln⟩ := x
      simp only at c0 c1 c2 c3
      clear hx hQ2
      obtain ⟨V, hV⟩ : ∃ V, pV L ps = V := ⟨_, rfl⟩
      rw [hV] at hVl ⊢
      have HV := Lib.hid hV; clear hV
      have hsz := strOfNums_size V
      obtain ⟨S, hS⟩ : ∃ S, strOfNums V = S := ⟨_, rfl⟩
      rw [hS] at hsz ⊢
      have hSs : S.size ≤ 13100 := by rw [hsz]; exact hVl
      have HSZ := Lib.hid hsz
      have HS := Lib.hid hS
      clear hS hsz
      have HO := Lib.hid ho
      have HOK := Lib.hid hok
      have HM := Lib.hid hm
      clear ho hok hm
      by_cases hbig : (9000 : Int) < (tx_.size : Int)
      · go_wp2_with fail
        go_ret
        exact ⟨rfl, hb.alloc hb.size _⟩
      · by_cases hbig2 : (4096 : Int) < (S.size : Int)
        · go_wp2_with fail
          go_ret
          exact ⟨rfl, hb.alloc hb.size _⟩
        · cases cp with
          | true =>
            by_cases hz : len = 0
            · have hlz : ((len : Int) == 0) = true := by rw [beq_iff_eq]; omega
              clear hz
              go_wp2_with fail
              go_roundg (n2 - (i+1))
              case measure => omega
              case rel => exact ⟨i+1, ps, ao3, m, cap3, by omega, by go_num, by rw [HV.out, HS.out], rfl, HM.out, HO.out.alloc _, HOK.out, by omega, by rw [HV.out]; exact hVl, hb.alloc hb.size _⟩
            · obtain ⟨u, hu⟩ : ∃ u, IntKind.u64.wrap at_ = u := ⟨_, rfl⟩
              have hu0 : 0 ≤ u ∧ u < 18446744073709551616 := by rw [← hu, IntKind.wrap_u64]; omega
              obtain ⟨hu0, hu1⟩ := hu0
              obtain ⟨v, hv⟩ : ∃ v, IntKind.u64.wrap ln = v := ⟨_, rfl⟩
              have hv0 : 0 ≤ v ∧ v < 18446744073709551616 := by rw [← hv, IntKind.wrap_u64]; omega
              obtain ⟨hv0, hv1⟩ := hv0
              obtain ⟨k, hk⟩ : ∃ k : Nat, u % (len : Int) = (k : Int) := ⟨(u % (len : Int)).toNat, by have := Int.emod_nonneg u (show (len : Int) ≠ 0 by omega); omega⟩
              have hkl : k < len := by have := Int.emod_lt_of_pos u (show (0 : Int) < (len : Int) by omega); omega
              obtain ⟨j, hj⟩ : ∃ j : Nat, v % ((len : Int) - (k : Int)) = (j : Int) := ⟨(v % ((len : Int) - (k : Int))).toNat, by have := Int.emod_nonneg v (show ((len : Int) - (k : Int)) ≠ 0 by omega); omega⟩
              have hjl : k + j < len := by have := Int.emod_lt_of_pos v (show (0 : Int) < ((len : Int) - (k : Int)) by omega); omega
              have hlz : (0 : Int) < (len : Int) := by omega
              have hlk : (0 : Int) < (len : Int) - (k : Int) := by omega
              have hrm := HA.out.room
              have hA1 : (k : Int) ≤ (k : Int) + (1 + (j : Int)) := by omega
              have hA2 : (k : Int) + (1 + (j : Int)) ≤ (cap : Int) := by omega
              have hA6 : ((k : Int) + (1 + (j : Int))).toNat - k = j + 1 := by omega
              have hac : k ≠ cap := by omega
              obtain ⟨rfl, hbwA⟩ := HA.out.at_ (by omega)
              have hlA := HA.out.size
              have hAw := HA.out.below (hb.alloc hb.size (.cells #[.bool true, .int .i64 (k : Int), .string tx_, .int .i64 (1 + (j : Int))] 26)) (fun _ => hbwA)
              have hcv := bytes_cut hAw k (j + 1) (by omega) (cap - k)
              have hCl : ((L.drop k).take (j + 1)).length = j + 1 := by rw [List.length_take, List.length_drop]; omega
              obtain ⟨C, hC⟩ : ∃ C, (L.drop k).take (j + 1) = C := ⟨_, rfl⟩
              rw [hC] at hcv hCl
              have hsum : ¬ (9223372036854775807 < S.size + (strOfNums C).size) := by rw [strOfNums_size, hCl]; omega
              have hQV : Q.V L ⟨true, (k : Int), tx_, 1 + (j : Int)⟩ = C := by
                rw [← hC]; unfold Q.V; rw [if_pos rfl]
                show List.take (1 + (j : Int)).toNat (List.drop (k : Int).toNat L) = _
                rw [show (1 + (j : Int)).toNat = j + 1 by omega]; rfl
              have hQO : Q.Ok L ⟨true, (k : Int), tx_, 1 + (j : Int)⟩ := by
                unfold Q.Ok; rw [if_pos rfl]
                show 0 ≤ (k : Int) ∧ 0 < 1 + (j : Int) ∧ (k : Int) + (1 + (j : Int)) ≤ (L.length : Int)
                omega
              have HQV := Lib.hid hQV
              have HQO := Lib.hid hQO
              have HCL := Lib.hid hCl
              have HLA := Lib.hid hlA
              clear hQV hQO hC hCl hAw hlA
              go_wp2_with (first
                | (at_builtin; refine wpList_ownQ_append1 rfl (.tmp 93) (.tmp 95) rfl ((HO.out.alloc _).alloc _) rfl HM.out (wr.heap.size+1) 1 ⟨true, (k : Int), tx_, 1 + (j : Int)⟩ rfl (alloc2_q _ _ _) (by omega) (by simp; have := hb.size; omega) ?_; intro a5 c5 w5 ho5 hg5))
              have hb5 : Below w.heap.size w w5 := below_ownQ ((hb.alloc hb.size _).alloc (by simp; have := hb.size; omega) _) ((HO.out.alloc _).alloc _) hg5 (Nat.le_refl _) (by simp; have := hb.size; omega)
              go_roundg (n2 - (i+1))
              case measure => omega
              case rel =>
                refine ⟨i+1, ps ++ [⟨true, (k : Int), tx_, 1 + (j : Int)⟩], a5, m + 1, c5, by omega, by go_num, ?_, rfl, by rw [HM.out]; simp, ho5, ?_, by simp; omega, ?_, hb5⟩
                · rw [pV_snoc, HV.out, HQV.out, ← HS.out, strOfNums_append]
                · intro y hy
                  rcases List.mem_append.1 hy with h | h
                  · exact HOK.out y h
                  · obtain rfl := List.mem_singleton.1 h
                    exact ⟨HQO.out, by show tx_.size ≤ 9000; omega⟩
                · rw [pV_snoc, HV.out, HQV.out, List.length_append, HCL.out]
                  have := HSZ.out
                  omega
          | false =>
            have hemp := toList_emp tx_
            by_cases hz : tx_.size = 0
            · rw [decide_eq_true hz] at hemp
              go_wp2_with fail
              go_roundg (n2 - (i+1))
              case measure => omega
              case rel => exact ⟨i+1, ps, ao3, m, cap3, by omega, by go_num, by rw [HV.out, HS.out], rfl, HM.out, HO.out.alloc _, HOK.out, by omega, by rw [HV.out]; exact hVl, hb.alloc hb.size _⟩
            · rw [decide_eq_false hz] at hemp
              have hsum : ¬ (9223372036854775807 < S.size + tx_.size) := by omega
              have hQV : Q.V L ⟨false, at_, tx_, ln⟩ = bl tx_ := rfl
              have hQO : Q.Ok L ⟨false, at_, tx_, ln⟩ := by
                show 0 < tx_.size
                omega
              go_wp2_with (first
                | (at_builtin; refine wpList_ownQ_append1 rfl (.tmp 93) (.tmp 95) rfl ((HO.out.alloc _).alloc _) rfl HM.out (wr.heap.size+1) 1 ⟨false, at_, tx_, ln⟩ rfl (alloc2_q _ _ _) (by omega) (by simp; have := hb.size; omega) ?_; intro a5 c5 w5 ho5 hg5))
              have hb5 : Below w.heap.size w w5 := below_ownQ ((hb.alloc hb.size _).alloc (by simp; have := hb.size; omega) _) ((HO.out.alloc _).alloc _) hg5 (Nat.le_refl _) (by simp; have := hb.size; omega)
              go_roundg (n2 - (i+1))
              case measure => omega
              case rel =>
                refine ⟨i+1, ps ++ [⟨false, at_, tx_, ln⟩], a5, m + 1, c5, by omega, by go_num, ?_, rfl, by rw [HM.out]; simp, ho5, ?_, by simp; omega, ?_, hb5⟩
                · rw [pV_snoc, HV.out, hQV, ← HS.out, ← strOfNums_append, bl_text]
                · intro y hy
                  rcases List.mem_append.1 hy with h | h
                  · exact HOK.out y h
                  · obtain rfl := List.mem_singleton.1 h
                    exact ⟨hQO, by show tx_.size ≤ 9000; omega⟩
                · rw [pV_snoc, HV.out, hQV, List.length_append, bl_length]
                  have := HSZ.out
                  omega
    · obtain rfl : i = n2 := by omega
      obtain ⟨w2, rfl⟩ : ∃ w2 : World, w2 = wr := ⟨_, rfl⟩
      obtain ⟨V, hV⟩ : ∃ V, pV L ps = V := ⟨_, rfl⟩
      rw [hV] at hVl ⊢
      have hsz := strOfNums_size V
      by_cases hbig2 : (4096 : Int) < (V.length : Int)
      · have hbig : (4096 : Int) < ((strOfNums V).size : Int) := by rw [hsz]; exact hbig2
        clear hsz
        go_wp2_with fail
        go_ret
        exact ⟨rfl, hb⟩
      · have hbig : ¬ ((4096 : Int) < ((strOfNums V).size : Int)) := by rw [hsz]; exact hbig2
        subst hm
        obtain ⟨b4, hq4⟩ := ho.arg ⟨false, 0, { data := #[] }, 0⟩
        have hup : upto (fun i => (ps.getD i ⟨false, 0, { data := #[] }, 0⟩).B) ps.length = pB ps := upto_getD Q.B ps ⟨false, 0, { data := #[] }, 0⟩
        have hL9 : L.length ≤ 9000 := by rw [← HA.out.size]; exact hl9
        have hpb := pB_len ps (fun x hx => (hok x hx).1) hL9 (fun x hx => (hok x hx).2)
        have hqi : ∀ i, i < ps.length → ((ps.getD i ⟨false, 0, { data := #[] }, 0⟩).cp = true → (0 ≤ (ps.getD i ⟨false, 0, { data := #[] }, 0⟩).at_ ∧ (ps.getD i ⟨false, 0, { data := #[] }, 0⟩).at_ ≤ 1048576) ∧ 0 ≤ (ps.getD i ⟨false, 0, { data := #[] }, 0⟩).ln ∧ (ps.getD i ⟨false, 0, { data := #[] }, 0⟩).ln ≤ 1048576) ∧ (ps.getD i ⟨false, 0, { data := #[] }, 0⟩).tx.size ≤ 1048576 := by
          intro i hi
          have hm : ps.getD i ⟨false, 0, { data := #[] }, 0⟩ ∈ ps := by rw [List.getD_eq_getElem?_getD, List.getElem?_eq_getElem hi]; exact List.getElem_mem hi
          obtain ⟨h1, h2⟩ := hok _ hm
          refine ⟨fun hc => ?_, by omega⟩
          unfold Q.Ok at h1
          rw [if_pos hc] at h1
          omega
        have hu8 := pB_u8 ps
        have P1 := fun (X : World) (hX : Below w2.heap.size w2 X) (n : Nat) (hn : n ≤ 1048576) => patch_any X n hn ao3 b4 0 ps.length cap3 _ (hq4.below hX (fun h => (hq4.at_ h).2)) (by omega) hqi (by rw [hup]; omega)
        rw [hup] at P1
        have PA := Lib.hid P1
        have HV := Lib.hid hV
        have HOK := Lib.hid hok
        clear hok hV hup P1 hqi hq4 ho hbig
        have hbl : ∀ n, bl (strOfNums (grp n 64 ++ pB ps)) = grp n 64 ++ pB ps := fun n => bl_strOf _ (fun c hc => (List.mem_append.1 hc).elim (grp_u8 _ _ (Or.inl rfl) c) (hu8 c))
        have HBL := Lib.hid hbl
        have e64 : bl { data := #[64] } = [64] := rfl
        have z64 : ({ data := #[64] } : ByteArray).size = 1 := rfl
        have hb2 : bl (strOfNums (grp V.length 64 ++ pB ps) ++ { data := #[64] }) = grp V.length 64 ++ (pB ps ++ [64]) := by rw [bl_append, hbl, e64, List.append_assoc]
        have HB2 := Lib.hid hb2
        have hs2 : (strOfNums (grp V.length 64 ++ pB ps) ++ { data := #[64] }).size = (grp V.length 64 ++ pB ps).length + 1 := by rw [ByteArray.size_append, strOfNums_size, z64]
        rw [List.length_append] at hs2
        have HS2 := Lib.hid hs2
        clear hb2 hs2 e64
        have hgl := grp_len_le V.length (by omega) 64
        have hgl2 := grp_len_le (V.length + 1) (by omega) 64
        have hS1 := strOfNums_size (grp V.length 64 ++ pB ps)
        have hS3 := strOfNums_size (grp (V.length + 1) 64 ++ pB ps)
        rw [List.length_append] at hS1 hS3
        have HS1 := Lib.hid hS1
        have HS3 := Lib.hid hS3
        have hsum : ¬ (9223372036854775807 < (strOfNums (grp V.length 64 ++ pB ps)).size + ({ data := #[64] } : ByteArray).size) := by
          rw [hS1, z64]; omega
        clear hS1 hS3 hbl hu8 z64
        have hHA : 0 < len → b < w.heap.size := fun h => (HA.out.at_ h).2
        have HHA := Lib.hid hHA
        clear hHA
        go_wp2_with fail
        refine (PA.out w2 (Below.refl _ _) V.length (by omega)).mono ?_
        rintro e w3 ⟨rfl, hb3⟩
        have hw3 := hb.trans (hb3.mono hb.size)
        go_wp2_with fail
        have hA3 := HA.out.below hw3 HHA.out
        have hok3 : ∀ x ∈ ps, x.Ok L := fun x hx => (HOK.out x hx).1
        have C3 := apply_any L ao b off len cap hA3 (by omega) (strOfNums (grp V.length 64 ++ pB ps)) V.length ps [] (by rw [HBL.out, List.append_nil]) hok3
        have C4 := C3 (by omega) (Or.inl (by rw [HV.out])) (by rw [HS1.out]; omega)
        clear C3 hA3
        refine C4.mono ?_
        rintro e w4 ⟨a4, m4, c4, ez4, rfl, hap4, hb4⟩
        rw [HV.out] at hap4
        obtain ⟨rfl, rfl, ho4⟩ := hap4.1 rfl rfl
        have hx4 := hb3.trans (hb4.mono hb3.size)
        have hw4 := hw3.trans (hb4.mono hw3.size)
        clear hap4 hb3 hw3 hb4
        go_wp2_with fail
        refine (PA.out w4 hx4 V.length (by omega)).mono ?_
        rintro e w5 ⟨rfl, hb5⟩
        have hw5 := hw4.trans (hb5.mono hw4.size)
        go_wp2_with fail
        have hA5 := HA.out.below hw5 HHA.out
        have C5 := apply_any L ao b off len cap hA5 (by omega) (strOfNums (grp V.length 64 ++ pB ps) ++ { data := #[64] }) V.length ps [64] HB2.out hok3
        have C6 := C5 (by omega) (Or.inl (by rw [HV.out])) (by rw [HS2.out]; omega)
        clear C5 hA5
        refine C6.mono ?_
        rintro e w6 ⟨a6, m6, c6, ez6, rfl, hap6, hb6⟩
        rw [HV.out] at hap6
        obtain ⟨rfl, rfl⟩ := hap6.2.1 rfl (by simp)
        have hx6 := hx4.trans ((hb5.mono hx4.size).trans (hb6.mono (by have := hb5.size; have := hx4.size; omega)))
        have hw6 := hw5.trans (hb6.mono hw5.size)
        have ho6 := (ho4.below hb5).below hb6
        have P7 := PA.out w6 hx6 (V.length + 1) (by omega)
        rw [show ((V.length + 1 : Nat) : Int) = (V.length : Int) + 1 by omega] at P7
        have HP7 := Lib.hid P7
        clear P7 hap6 C4 C6 hb5 hb6 hx6 hx4 hw5 ho4 hsum
        go_wp2_with (go_at_call 8; refine HP7.out.mono ?_; rintro e w7 ⟨rfl, hb7⟩)
        have hw7 := hw6.trans (hb7.mono hw6.size)
        have ho7 := ho6.below hb7
        by_cases h4096 : V.length = 4096
        · have C8 := apply_long (w := w7) (.slice ao len cap) (strOfNums (grp (V.length + 1) 64 ++ pB ps)) (V.length + 1) (pB ps) (HBL.out _) (by omega) (by omega) (by rw [HS3.out]; omega)
          refine C8.mono ?_
          rintro e w8 ⟨rfl, hb8⟩
          have hw8 := hw7.trans (hb8.mono hw7.size)
          have ho8 := ho7.below hb8
          have hcv := conv_own ho8 V.length rfl
          have h40 : ((V.length : Int) == 4096) = true := by rw [beq_iff_eq]; omega
          clear h4096 ho8 ho7 C8 hb8 hb7 ho6
          go_wp2_with fail
          go_ret
          exact ⟨rfl, hw8⟩
        · have hA7 := HA.out.below hw7 HHA.out
          have C7 := apply_any L ao b off len cap hA7 (by omega) (strOfNums (grp (V.length + 1) 64 ++ pB ps)) (V.length + 1) ps [] (by rw [HBL.out, List.append_nil]) hok3
          have C8 := C7 (by omega) (Or.inr ⟨by rw [HV.out], rfl⟩) (by rw [HS3.out]; omega)
          clear C7 hA7
          refine C8.mono ?_
          rintro e w8 ⟨a8, m8, c8, ez8, rfl, hap8, hb8⟩
          rw [HV.out] at hap8
          obtain ⟨rfl, rfl⟩ := hap8.2.2 (by omega)
          have hw8 := hw7.trans (hb8.mono hw7.size)
          have ho8 := ho7.below hb8
          have hcv := conv_own ho8 V.length rfl
          clear h4096 ho8 ho7 C8 hb8 hb7 ho6 hap8
          go_wp2_with fail
          go_ret
          exact ⟨rfl, hw8⟩
set_option maxRecDepth 100000 in
set_option maxHeartbeats 4000000 in
theorem pieces_long (w : World) (ao : Option Addr) (len cap : Nat) (ao2 : Option Addr) (n2 cap2 : Nat) (h : 9000 < len ∨ 300 < n2) :
    Calls Try.prog 3 #[.slice ao len cap, .slice ao2 n2 cap2] w fun e w' => e = .returned (.bool true) ∧ Below w.heap.size w w' := by
  by_cases h1 : (9000 : Int) < (len : Int)
  · go_enter Try.func3, Try.ntmps3
    go_wp2_with fail
    refine (awake_any w).mono ?_
    rintro e w1 ⟨rfl, hb1⟩
    go_wp2_with fail
    refine (awake_any w1).mono ?_
    rintro e w2 ⟨rfl, hb2⟩
    go_wp2_with fail
    go_ret
    exact ⟨rfl, hb1.trans (hb2.mono hb1.size)⟩
  · have h2 : (300 : Int) < (n2 : Int) := by omega
    go_enter Try.func3, Try.ntmps3
    go_wp2_with fail
    refine (awake_any w).mono ?_
    rintro e w1 ⟨rfl, hb1⟩
    go_wp2_with fail
    refine (awake_any w1).mono ?_
    rintro e w2 ⟨rfl, hb2⟩
    go_wp2_with fail
    go_ret
    exact ⟨rfl, hb1.trans (hb2.mono hb1.size)⟩
end Go.Proofs.Ytkfjkipffklblaa
