/-
  The walk of siloref19.Apply over a patch of pieces.
-/
import Derived.Test.YtkfjkipffklblaaApply
import Derived.Test.YtkfjkipffklblaaReft
namespace Go.Proofs.Ytkfjkipffklblaa
open Go.RowKit
set_option linter.unusedVariables false

theorem cut_u8' {T : List Int} (h : ∀ c ∈ T, 0 ≤ c ∧ c < 256) (k n : Nat) : ∀ c ∈ (T.drop k).take n, 0 ≤ c ∧ c < 256 := fun c hc => h c (List.mem_of_mem_drop (List.mem_of_mem_take hc))
/-- What a count reads, of the bytes from at on. -/
theorem rc_at (s : ByteArray) (at_ n : Nat) (hn : n < 9223372036854775808) (A R : List Int) (h : bl s = A ++ (grp n 64 ++ R)) (ha : A.length = at_) : rc (s.extract at_ s.size) = ((n : Int), (grp n 64).length, 0) := by
  have h1 := bl_cut s A _ h
  rw [ha] at h1
  have h2 := nmb_grp n hn 64 (Or.inl rfl) R
  rw [← h1, decide_eq_false (by decide)] at h2
  exact rc_ok h2

set_option maxRecDepth 100000 in
set_option maxHeartbeats 4000000 in
theorem refapply_any (w : World) (base s : ByteArray) (l : List Q) (hS : bl s = grp (pV (bl base) l).length 64 ++ pB l) (hok : ∀ q ∈ l, q.Ok (bl base)) (hn : (pV (bl base) l).length ≤ 4096) (hsz : s.size ≤ 16777216) (hb : base.size ≤ 16777216) :
    Calls Try.prog 10 #[.string base, .string s] w fun e w' => e = .returned (.tuple #[.string (strOfNums (pV (bl base) l)), .int .i64 0]) ∧ w = w' := by
  have hrc0 := rc_at s 0 (pV (bl base) l).length (by omega) [] (pB l) hS rfl
  rw [ext_all] at hrc0
  have C0 := rcountR_any w s (by omega)
  rw [hrc0] at C0
  obtain ⟨V, hV⟩ : ∃ V, pV (bl base) l = V := ⟨_, rfl⟩
  rw [hV] at C0 hS hn ⊢
  have HC0 := Lib.hid C0
  have HV := Lib.hid hV
  have HS := Lib.hid hS
  have HOK := Lib.hid hok
  clear C0 hrc0 hV hS hok
  go_enter Try.func10, Try.ntmps10
  go_wp2_with (go_at_call 21; refine HC0.out.mono ?_; rintro e w1 ⟨rfl, rfl⟩; unfold tri)
  have hsz0 := bl_length s
  rw [HS.out, List.length_append] at hsz0
  go_loopg [7, 9] l.length (fun g av ov wr => ∃ (done rest : List Q) (a : Nat), l = done ++ rest ∧ rest.length = g ∧ av = .int .i64 a ∧ a = (grp V.length 64 ++ pB done).length ∧ ov = .string (strOfNums (pV (bl base) done)) ∧ w = wr)
  case atStart => exact ⟨[], l, _, rfl, rfl, rfl, by simp [pB], rfl, rfl⟩
  case round =>
    obtain ⟨done, rest, a, hl, hg, rfl, ha, rfl, rfl⟩ := hrel
    have hVl : V.length = (pV (bl base) done).length + (pV (bl base) rest).length := by rw [← HV.out, hl, pV_app, List.length_append]
    have hos := strOfNums_size' (pV (bl base) done)
    cases rest with
    | nil =>
      have hdl : l = done := by rw [hl, List.append_nil]
      have hVd : pV (bl base) done = V := by rw [← hdl, HV.out]
      have has : a = s.size := by rw [ha, ← hdl, List.length_append]; omega
      rw [hVd] at hos ⊢
      have hlt : ¬ ((V.length : Int) < (V.length : Int)) := by omega
      subst has
      clear hVl hl ha hdl hVd hg
      go_wp2_with fail
      go_ret2
      exact ⟨rfl, rfl⟩
    | cons q rest =>
      have hq := HOK.out q (by rw [hl]; simp)
      have hpos := Q.V_pos hq
      have hvlen := Q.V_len hq
      have hpr : (pV (bl base) (q :: rest)).length = (q.V (bl base)).length + (pV (bl base) rest).length := by simp [pV]
      rw [hpr] at hVl
      have hbs : bl s = (grp V.length 64 ++ pB done) ++ (q.B ++ pB rest) := by rw [HS.out, hl, pB_app, List.append_assoc]; simp [pB]
      have hvs := pV_snoc (bl base) done q
      have hBs : grp V.length 64 ++ pB (done ++ [q]) = (grp V.length 64 ++ pB done) ++ q.B := by rw [pB_app, ← List.append_assoc]; simp [pB]
      obtain ⟨A, hA⟩ : ∃ A, grp V.length 64 ++ pB done = A := ⟨_, rfl⟩
      rw [hA] at hbs hBs ha
      have hsl := bl_length s
      rw [hbs, List.length_append, List.length_append] at hsl
      obtain ⟨O, hO⟩ : ∃ O, strOfNums (pV (bl base) done) = O := ⟨_, rfl⟩
      rw [hO] at hos ⊢
      have hm : O.size + (q.V (bl base)).length ≤ V.length := by omega
      have hlt : (O.size : Int) < (V.length : Int) := by omega
      have HVS := Lib.hid hvs; have HBS := Lib.hid hBs; have HO := Lib.hid hO; have HL := Lib.hid hl; have HA := Lib.hid ha
      clear hVl hpr hos hvs hBs hA hO hl hpos ha
      unfold Q.Ok at hq
      cases hc : q.cp
      · have hqB : q.B = grp (2 * q.tx.size) 64 ++ bl q.tx := by unfold Q.B; rw [if_neg (by rw [hc]; decide)]
        have hqV : q.V (bl base) = bl q.tx := by unfold Q.V; rw [if_neg (by rw [hc]; decide)]
        rw [if_neg (by rw [hc]; decide)] at hq
        rw [hqB, List.append_assoc] at hbs
        rw [hqB, List.length_append, bl_length] at hsl
        rw [hqV, bl_length] at hm
        have HQV := Lib.hid hqV; have HQB := Lib.hid hqB
        obtain ⟨t, ht⟩ : ∃ t, q.tx = t := ⟨_, rfl⟩
        rw [ht] at hbs hsl hm hq HQV HQB
        have hgl := grp_len_le (2 * t.size) (by omega) 64
        have hr := rc_at s a (2 * t.size) (by omega) A _ hbs HA.out.symm
        have C := rcountR_any w (s.extract a s.size) (by rw [ByteArray.size_extract]; omega)
        rw [hr] at C
        have hcut := bl_cut s (A ++ grp (2 * t.size) 64) (bl t ++ pB rest) (by rw [hbs, List.append_assoc])
        rw [List.length_append, ← HA.out] at hcut
        have hx0 := bl_head _ (bl t) (pB rest) hcut
        rw [bl_length] at hx0
        have hx := bl_inj hx0
        obtain ⟨k, hk⟩ : ∃ k, (grp (2 * t.size) 64).length = k := ⟨_, rfl⟩
        rw [hk] at C hx hsl hgl
        obtain ⟨N, hN⟩ : ∃ N : Nat, 2 * t.size = N := ⟨_, rfl⟩
        rw [hN] at C
        have hN2 : (N : Int) / 2 = (t.size : Int) := by omega
        have hN1 : ((N : Int) % 2 == 0) = true := by rw [beq_iff_eq]; omega
        have hN3 : ((N : Int) == 0) = false := by rw [beq_eq_false_iff_ne]; omega
        have hN4 : ((N : Int) == 1) = false := by rw [beq_eq_false_iff_ne]; omega
        have hN5 : ¬ ((V.length : Int) - (O.size : Int) < (t.size : Int)) := by omega
        have hak : a + k + t.size ≤ s.size := by have := HA.out; omega
        have hN6 : ¬ ((s.size : Int) - ((a : Int) + (k : Int)) < (t.size : Int)) := by omega
        have hz1 : (a : Int) + (k : Int) ≤ (s.size : Int) := by omega
        have hz0 : (a : Int) ≤ (s.size : Int) := by omega
        have hes : (s.extract (a + k) s.size).size = s.size - (a + k) := by rw [ByteArray.size_extract]; omega
        have hz2 : (t.size : Int) ≤ ((s.extract (a + k) s.size).size : Int) := by rw [hes]; omega
        have hsum : ¬ (9223372036854775807 < O.size + t.size) := by omega
        have HC := Lib.hid C
        have HK := Lib.hid hk
        clear C hk hN hcut hx0 hr hbs hes hqB hqV ht hsl hvlen
        go_wp2_with (go_at_call 21; (with_reducible refine HC.out.mono ?_); rintro e w1 ⟨rfl, rfl⟩; unfold tri)
        go_roundg rest.length
        case measure => rw [← hg]; simp
        case rel =>
          refine ⟨done ++ [q], rest, a + k + t.size, by rw [HL.out]; simp, rfl, by go_num, ?_, ?_, rfl⟩
          · rw [HBS.out, List.length_append, HQB.out, List.length_append, bl_length, HK.out, ← HA.out]; omega
          · rw [HVS.out, HQV.out, ← strOfNums_append, HO.out, bl_text]
      · rw [if_pos hc] at hq
        obtain ⟨h0, h1, h2⟩ := hq
        obtain ⟨m, hm0⟩ := Int.eq_ofNat_of_zero_le (Int.le_of_lt h1)
        obtain ⟨i, hi0⟩ := Int.eq_ofNat_of_zero_le h0
        have hqB : q.B = grp (2 * m + 1) 64 ++ grp i 64 := by unfold Q.B; rw [if_pos hc, hm0, hi0]; rfl
        have hqV : q.V (bl base) = ((bl base).drop i).take m := by unfold Q.V; rw [if_pos hc, hm0, hi0]; rfl
        rw [hm0, hi0, bl_length] at h2
        rw [hm0] at h1
        rw [if_pos hc, hm0] at hvlen
        simp only [Int.toNat_natCast] at hvlen
        rw [hvlen] at hm
        rw [hqB, List.append_assoc] at hbs
        rw [hqB, List.length_append] at hsl
        have HQV := Lib.hid hqV; have HQB := Lib.hid hqB
        have hgl := grp_len_le (2 * m + 1) (by omega) 64
        have hgl2 := grp_len_le i (by omega) 64
        have hr := rc_at s a (2 * m + 1) (by omega) A _ hbs HA.out.symm
        have C := rcountR_any w (s.extract a s.size) (by rw [ByteArray.size_extract]; omega)
        rw [hr] at C
        have hr2 := rc_at s (a + (grp (2 * m + 1) 64).length) i (by omega) (A ++ grp (2 * m + 1) 64) (pB rest) (by rw [hbs, List.append_assoc]) (by rw [List.length_append, ← HA.out])
        have C2 := rcountR_any w (s.extract (a + (grp (2 * m + 1) 64).length) s.size) (by rw [ByteArray.size_extract]; omega)
        rw [hr2] at C2
        have hx : (base.extract i base.size).extract 0 m = strOfNums (((bl base).drop i).take m) := by
          apply bl_inj
          rw [bl_extract, bl_extract, bl_strOf _ (cut_u8' (bl_u8 base) i m), List.drop_zero]
          rw [List.take_of_length_le (l := (bl base).drop i) (by rw [List.length_drop, bl_length]; omega), Nat.sub_zero]
        obtain ⟨k, hk⟩ : ∃ k, (grp (2 * m + 1) 64).length = k := ⟨_, rfl⟩
        rw [hk] at C C2 hsl hgl
        obtain ⟨k2, hk2⟩ : ∃ k, (grp i 64).length = k := ⟨_, rfl⟩
        rw [hk2] at C2 hsl hgl2
        obtain ⟨t, ht⟩ : ∃ t, strOfNums (((bl base).drop i).take m) = t := ⟨_, rfl⟩
        rw [ht] at hx
        have hts : t.size = m := by rw [← ht, strOfNums_size', List.length_take, List.length_drop, bl_length]; omega
        obtain ⟨N, hN⟩ : ∃ N : Nat, 2 * m + 1 = N := ⟨_, rfl⟩
        rw [hN] at C
        have hN2 : (N : Int) / 2 = (m : Int) := by omega
        have hN1 : ((N : Int) % 2 == 0) = false := by rw [beq_eq_false_iff_ne]; omega
        have hN3 : ((N : Int) == 0) = false := by rw [beq_eq_false_iff_ne]; omega
        have hN4 : ((N : Int) == 1) = false := by rw [beq_eq_false_iff_ne]; omega
        have hN5 : ¬ ((V.length : Int) - (O.size : Int) < (m : Int)) := by omega
        have hak : a + k + k2 ≤ s.size := by have := HA.out; omega
        have hz1 : (a : Int) + (k : Int) ≤ (s.size : Int) := by omega
        have hz0 : (a : Int) ≤ (s.size : Int) := by omega
        have hz5 : (i : Int) ≤ (base.size : Int) := by omega
        have hz6 : ¬ ((base.size : Int) < (i : Int)) := by omega
        have hz7 : ¬ ((base.size : Int) - (i : Int) < (m : Int)) := by omega
        have hes : (base.extract i base.size).size = base.size - i := by rw [ByteArray.size_extract]; omega
        have hz2 : (m : Int) ≤ ((base.extract i base.size).size : Int) := by rw [hes]; omega
        have hsum : ¬ (9223372036854775807 < O.size + t.size) := by omega
        have HC := Lib.hid C
        have HC2 := Lib.hid C2
        have HK := Lib.hid hk
        have HK2 := Lib.hid hk2
        have HTT := Lib.hid ht
        clear C C2 hk hk2 hN hr hr2 hbs hes hqB hqV ht hsl hvlen hm0 hi0 hts
        go_wp2_with (first
          | (go_at_call 21; (with_reducible refine HC.out.mono ?_); rintro e w1 ⟨rfl, rfl⟩; unfold tri)
          | (go_at_call 21; (with_reducible refine HC2.out.mono ?_); rintro e w1 ⟨rfl, rfl⟩; unfold tri))
        go_roundg rest.length
        case measure => rw [← hg]; simp
        case rel =>
          refine ⟨done ++ [q], rest, a + k + k2, by rw [HL.out]; simp, rfl, by go_num, ?_, ?_, rfl⟩
          · rw [HBS.out, List.length_append, HQB.out, List.length_append, HK.out, HK2.out, ← HA.out]; omega
          · rw [HVS.out, HQV.out, ← strOfNums_append, HO.out, HTT.out]
end Go.Proofs.Ytkfjkipffklblaa
