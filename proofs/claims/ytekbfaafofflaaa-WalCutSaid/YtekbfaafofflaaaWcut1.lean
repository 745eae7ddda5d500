/-
  The walk of silolaw12.WalCut.
-/
import Derived.Test.YtekbfaafofflaaaWawake
import Derived.Test.YtekbfaafofflaaaCutq
import Derived.Test.YtekbfaafofflaaaBytes
import Derived.Test.YtekbfaafofflaaaSame
import Derived.Test.YtekbfaafofflaaaClass
namespace Go.Proofs.Ytekbfaafofflaaa
open Go.RowKit
set_option linter.unusedVariables false

theorem und25 : Try.prog.underlying 25 = some (.slice 3) := by kernel_rfl
theorem info3 : (Try.prog.info? 3).map (fun i => (i.zero, i.size, i.bytes)) = some (some (.int .i64 0), 1, 8) := by kernel_rfl
def EN (F : Nat → List Int) (m : Nat) : List Int := (List.range m).map fun j => ((upto F (j + 1)).length : Int)
theorem EN_succ (F : Nat → List Int) (m : Nat) : EN F (m + 1) = EN F m ++ [((upto F (m + 1)).length : Int)] := by simp [EN, List.range_succ]
theorem EN_len (F : Nat → List Int) (m : Nat) : (EN F m).length = m := by simp [EN]
theorem EN_get (F : Nat → List Int) (m j : Nat) (h : j < m) : (EN F m).getD j 0 = ((upto F (j + 1)).length : Int) := by
  rw [List.getD_eq_getElem?_getD]; unfold EN; rw [List.getElem?_map, List.getElem?_range h]; rfl

theorem end_zero (w : World) (v : Value) : Calls Try.prog 9 #[v, .int .i64 0] w fun e w' => e = .returned (.int .i64 0) ∧ w = w' := by
  go_enter Try.func9, Try.ntmps9
  go_wp2_with fail
  go_ret
  exact ⟨rfl, rfl⟩
theorem end_pos (w : World) (g n c m : Nat) (x : Int) (hm : 0 < m) (hmn : m ≤ n) (hn : n ≤ 1048576) (hc : w.cell? ⟨g, m - 1, none⟩ = some (.int .i64 x)) : Calls Try.prog 9 #[.slice (some ⟨g, 0, none⟩) n c, .int .i64 m] w fun e w' => e = .returned (.int .i64 x) ∧ w = w' := by
  obtain ⟨k, rfl⟩ : ∃ k, m = k + 1 := ⟨m - 1, by omega⟩
  have h0 : (((k + 1 : Nat) : Int) == 0) = false := by rw [beq_eq_false_iff_ne]; omega
  have h1 : ((k + 1 : Nat) : Int) - 1 = (k : Int) := by omega
  rw [Nat.add_sub_cancel] at hc
  have hk : (k : Int) < (n : Int) := by omega
  obtain ⟨z, hz⟩ : ∃ z : Int, ((k + 1 : Nat) : Int) = z := ⟨_, rfl⟩
  rw [hz] at h0 h1 ⊢
  have hz2 : -10 ≤ z ∧ z ≤ 1048576 := by omega
  obtain ⟨hz2, hz3⟩ := hz2
  clear hz hmn hm
  go_enter Try.func9, Try.ntmps9
  go_wp2_with fail
  go_ret
  exact ⟨rfl, rfl⟩

theorem OwnV.room {w : World} {B : Nat} {e : TypeId} {ao : Option Addr} {cap : Nat} {L : List Value} (h : OwnV w B e ao cap L) : L.length ≤ cap := by
  rcases h.2 with ⟨_, h0⟩ | ⟨g, c, cur, hv, _, _, hr, _⟩
  · omega
  · simp only [Value.slice.injEq] at hv
    rw [hv.2.2]; exact hr
theorem end_zero' (w : World) (v : Value) (m : Nat) (hm : m = 0) : Calls Try.prog 9 #[v, .int .i64 m] w fun e w' => e = .returned (.int .i64 ((0 : Nat) : Int)) ∧ w = w' := by subst hm; exact end_zero w v
theorem Own.cell' {w : World} {B : Nat} {e : TypeId} {k : IntKind} {ao : Option Addr} {cap : Nat} {L : List Int} (h : Own w B e k ao cap L) {g : Nat} (hg : ao = some ⟨g, 0, none⟩) (j : Nat) (hj : j < L.length) (d : Nat) : (w.drewN d).cell? ⟨g, j, none⟩ = some (.int k (L.getD j 0)) := by subst hg; exact h.cell j hj
set_option maxRecDepth 100000 in
set_option maxHeartbeats 16000000 in
theorem wcut_any (w : World) (ao : Option Addr) (b off len cap : Nat) (T : Nat → ByteArray) (hT : TextArg w ao b off len T) (hs : ∀ i, i < len → (T i).size ≤ 9223372036854775807) (hcap : len ≤ cap) (at_ : Int) (bit : Int) (hb0 : 0 ≤ bit) (hb1 : bit < 256) :
    Calls Try.prog 3 #[.slice ao len cap, .int .i64 at_, .int .u8 bit] w fun e w' => e = .returned (.bool true) ∧ Below w.heap.size w w' := by
  have HT := Lib.hid hT; clear hT
  have HSs := Lib.hid hs; clear hs
  go_enter Try.func3, Try.ntmps3
  go_wp2_with fail
  refine (awake_any w).mono ?_
  rintro e w1 ⟨rfl, hb1⟩
  have hT1 : TextArg w1 ao b off len T := ⟨fun h => ⟨(HT.out.at_ h).1, Nat.lt_of_lt_of_le (HT.out.at_ h).2 hb1.size⟩, fun i hi => (hb1.cell (p := ⟨b, off + i, none⟩) (HT.out.at_ (by omega)).2).trans (HT.out.cell i hi)⟩
  have FW := Lib.hid (few_any w1 ao b off len cap T hT1 HSs.out)
  clear hT1
  go_wp2_with fail
  refine FW.out.mono ?_
  rintro e w1' ⟨bb, rfl, rfl, hbb⟩
  cases bb with
  | false =>
    clear hbb
    go_wp2_with fail
    refine (awake_any w1).mono ?_
    rintro e w2 ⟨rfl, hb2⟩
    go_wp2_with fail
    go_ret
    exact ⟨rfl, hb1.trans (hb2.mono hb1.size)⟩
  | true =>
    obtain ⟨hl200, hsz⟩ := hbb rfl
    have hF : ∃ F : Nat → List Int, ∀ j, F j = FT (T j) := ⟨_, fun _ => rfl⟩
    obtain ⟨F, hF⟩ := hF
    have hFl : ∀ i, i < len → (F i).length ≤ 30015 := fun i hi => by rw [hF, FT_len]; have := tx_len_le (T i) (by have := hsz i hi; omega); have := hsz i hi; omega
    have hA := upto_len F len 30015 hFl
    have HF := Lib.hid hF
    have HSZ := Lib.hid hsz
    clear hbb hF hFl hsz FW
    obtain ⟨w2, rfl⟩ : ∃ w2 : World, w2 = w1 := ⟨_, rfl⟩
    go_wp2_with fail
    go_loopg [7, 8, 9] len (fun g av ev v X => ∃ (i : Nat) (ae : Option Addr) (ce n : Nat), i + g = len ∧ v = .int .i64 i ∧ av = .string (strOfNums (upto F i)) ∧ ev = .slice ae n ce ∧ n = i ∧ Own X w.heap.size 3 .i64 ae ce (EN F i) ∧ Below w.heap.size w X)
    case atStart => exact ⟨0, none, 0, 0, by omega, rfl, rfl, rfl, rfl, Own.nil _ _ _ _, hb1⟩
    case round =>
      clear hb1
      obtain ⟨i, ae, ce, n, hi, rfl, rfl, rfl, hn, ho, hb⟩ := hrel
      have HO := Lib.hid ho
      have HN := Lib.hid hn
      clear ho hn
      by_cases hl : i < len
      · obtain ⟨rfl, hbw⟩ := HT.out.at_ (by omega)
        have ci := (hb.cell (p := ⟨b, off + i, none⟩) hbw).trans (HT.out.cell i hl)
        have hki := HSZ.out i hl
        have hul := upto_mono F len (i + 1) (by omega)
        have hus := upto_succ F i
        rw [HF.out] at hus
        obtain ⟨x, hx⟩ : ∃ x, T i = x := ⟨_, rfl⟩
        rw [hx] at ci hki hus
        have hz0 := strOfNums_size (upto F i)
        have hz1 : (FR x).size = (FT x).length := by rw [FR_size, FT_len]
        rw [hus, List.length_append] at hul
        have hsum : ¬ (9223372036854775807 < (strOfNums (upto F i)).size + (FR x).size) := by rw [hz0, hz1]; omega
        have hap : strOfNums (upto F i) ++ FR x = strOfNums (upto F (i + 1)) := by
          rw [hus]; unfold FT; rw [← strOfNums_append, bl_text]
        have hzz := strOfNums_size (upto F (i + 1))
        obtain ⟨S2, hS2⟩ : ∃ S, strOfNums (upto F (i + 1)) = S := ⟨_, rfl⟩
        rw [hS2] at hap hzz
        have HS2 := Lib.hid hS2; have HZZ := Lib.hid hzz
        have hENl := EN_len F i
        have hnl : n = (EN F i).length := by rw [hENl]; exact HN.out
        have HNL := Lib.hid hnl
        have HENL := Lib.hid hENl
        have hS2s : S2.size ≤ 16777216 := by rw [hzz, hus, List.length_append]; omega
        clear hz0 hz1 hus hul hx hS2 hzz hENl hnl
        go_wp2_with (first
          | (go_at_call 6; refine (frame_any _ x (by omega)).mono ?_; rintro e w4 ⟨rfl, hb4⟩; have ho4 := HO.out.below hb4; have hb4' := hb.trans (hb4.mono hb.size); have hb4s := hb4'.size)
          | (at_builtin; refine wpList_own_append1 rfl (.tmp 36) (.tmp 39) 25 rfl 3 .i64 8 und25 info3 (by decide) (ho4.alloc _) rfl HNL.out w4.heap.size 1 (S2.size : Int) rfl (by simp) (by rw [HENL.out]; omega) (by simp; omega) ?_; intro a5 c5 w5 ho5 hg5))
        have hb5 : Below w.heap.size w w5 := below_own (hb4'.alloc hb4s _) (ho4.alloc _) hg5 (Nat.le_refl _) (by simp; omega)
        rw [HZZ.out, ← EN_succ] at ho5
        go_roundg (len - (i+1))
        case measure => omega
        case rel => exact ⟨i+1, a5, c5, n + 1, by omega, by go_num, by rw [HS2.out], rfl, by rw [HN.out], ho5, hb5⟩
      · obtain rfl : i = len := by omega
        have hzz := strOfNums_size (upto F i)
        have hblA : bl (strOfNums (upto F i)) = upto F i := bl_strOf _ (upto_u8 F i (fun j hj c hc => by rw [HF.out] at hc; exact bl_u8 _ c hc))
        obtain ⟨S, hS⟩ : ∃ S, strOfNums (upto F i) = S := ⟨_, rfl⟩
        rw [hS] at hzz hblA ⊢
        have hSs : S.size ≤ 6003000 := by rw [hzz]; omega
        have HBA := Lib.hid hblA
        have HZZ := Lib.hid hzz
        obtain ⟨u, hu⟩ : ∃ u, IntKind.u64.wrap at_ = u := ⟨_, rfl⟩
        have hu0 : 0 ≤ u ∧ u < 18446744073709551616 := by rw [← hu, IntKind.wrap_u64]; omega
        obtain ⟨hu0, hu1⟩ := hu0
        obtain ⟨k, hk⟩ : ∃ k : Nat, u % ((S.size : Int) + 1) = (k : Int) := ⟨(u % ((S.size : Int) + 1)).toNat, by have := Int.emod_nonneg u (show ((S.size : Int) + 1) ≠ 0 by omega); omega⟩
        have hkl : k ≤ S.size := by have := Int.emod_lt_of_pos u (show (0 : Int) < ((S.size : Int) + 1) by omega); omega
        have hs1 : (0 : Int) < (S.size : Int) + 1 := by omega
        clear hS hzz hblA
        go_wp2_with fail
        clear hu hk hu0 hu1 hs1
        go_loopg [11] i (fun g v X => ∃ m : Nat, m + g = i ∧ v = .int .i64 m ∧ (∀ j, j < m → (upto F (j + 1)).length ≤ k) ∧ wr = X)
        case atStart => exact ⟨0, by omega, rfl, fun j hj => absurd hj (by omega), rfl⟩
        case round =>
          obtain ⟨m, hm, rfl, hmk, rfl⟩ := hrel
          have HMK := Lib.hid hmk
          clear hmk
          have hni : n = i := HN.out
          have hn1 : n ≤ i := Nat.le_of_eq hni
          have hn2 : i ≤ n := Nat.le_of_eq hni.symm
          clear hni
          by_cases hmi : m < i
          · obtain ⟨ge, rfl, hge, _⟩ := HO.out.headAt (by rw [EN_len]; omega)
            have ce1 := HO.out.cell m (by rw [EN_len]; exact hmi)
            rw [EN_get F i m hmi] at ce1
            obtain ⟨y, hy⟩ : ∃ y, (upto F (m + 1)).length = y := ⟨_, rfl⟩
            rw [hy] at ce1
            by_cases hyk : y ≤ k
            · have hyk' : (y : Int) ≤ (k : Int) := by omega
              have HY := Lib.hid hy
              clear hy
              go_wp2_with fail
              go_roundg (i - (m + 1))
              case measure => omega
              case rel =>
                refine ⟨m + 1, by omega, by go_num, fun j hj => ?_, rfl⟩
                by_cases e : j = m
                · subst e; rw [HY.out]; exact hyk
                · exact HMK.out j (by omega)
            · have hyk' : ¬ ((y : Int) ≤ (k : Int)) := by omega
              have HY := Lib.hid hy
              clear hy
              have hmle : m ≤ i := by omega
              have hex : m < i → k < (upto F (m + 1)).length := fun _ => by rw [HY.out]; omega
              have HEX := Lib.hid hex
              go_wp2_with fail
              have hLm : (upto F m).length ≤ k := by
                by_cases h0 : m = 0
                · subst h0; exact Nat.zero_le _
                · have := HMK.out (m - 1) (by omega)
                  rwa [show m - 1 + 1 = m by omega] at this
              have hT10 : ∀ j, j < i → (T j).size ≤ 1048576 := fun j hj => by have := HSZ.out j hj; omega
              have hblk : bl (S.extract 0 k) = (upto F i).take k := by rw [bl_extract, HBA.out, List.drop_zero, Nat.sub_zero]
              have hsp := cut_sp T F HF.out i m k hmle hT10 hLm hex (S.extract 0 k) hblk
              have C5 := split_any wr (S.extract 0 k) (by rw [ByteArray.size_extract]; omega)
              rw [hsp] at C5
              have HC5 := Lib.hid C5
              have HLM := Lib.hid hLm
              have HT10 := Lib.hid hT10
              clear C5 hsp hblk hT10
              refine HC5.out.mono ?_
              rintro e w5 ⟨a5, c5, rfl, ho5, hb5⟩
              have hb5' := hb.trans (hb5.mono hb.size)
              have hbs := hb.size
              have hTm : ∀ j, j < m → (((List.range m).map T).map Value.string)[j]? = some (.string (T j)) := fun j hj => by simp [hj]
              have hmcap : (m : Int) ≤ (cap : Int) := by omega
              have SM : ∀ X, Below w5.heap.size w5 X → Calls Try.prog 8 #[.slice a5 m c5, .slice ao m cap] X fun e w' => e = .returned (.bool true) ∧ ∃ k, w' = X.drewN k := by
                intro X hX
                by_cases hz : 0 < m
                · obtain ⟨rfl, hbw⟩ := HT.out.at_ (by omega)
                  obtain ⟨g5, rfl, _, _⟩ := ho5.headAt (by simp; exact hz)
                  have hoX := ho5.below hX
                  exact same_true X _ _ g5 0 b off m _ _ T (by omega) (fun _ => rfl) (fun _ => rfl) (fun j hj => by rw [Nat.zero_add]; exact hoX.cell j _ (hTm j hj)) (fun j hj => ((hb5'.trans (hX.mono hb5'.size)).cell (p := ⟨b, off + j, none⟩) hbw).trans (HT.out.cell j (by omega)))
                · exact same_true X _ _ 0 0 0 0 m _ _ (fun _ => emp) (by omega) (fun h => absurd h hz) (fun h => absurd h hz) (fun j hj => absurd hj (by omega)) (fun j hj => absurd hj (by omega))
              have HSM := Lib.hid SM
              have hO5 := HO.out.below hb5
              have HO5 := Lib.hid hO5
              clear SM hTm ho5 hO5 hb5
              obtain ⟨LM, hLMe⟩ : ∃ LM, (upto F m).length = LM := ⟨_, rfl⟩
              rw [hLMe]
              have hLMk : LM ≤ k := by rw [← hLMe]; exact HLM.out
              have HLMe := Lib.hid hLMe
              clear hLMe
              have hkn : k ≤ S.size := hkl
              have hkS : ((k : Int) == (S.size : Int)) = false := by
                rw [beq_eq_false_iff_ne]
                have h1 := HEX.out hmi
                have h2 := upto_mono F i (m + 1) (by omega)
                have h3 := HZZ.out
                omega
              have hmii : (m : Int) < (i : Int) := by omega
              have HTi : (T m).size ≤ 30000 := HSZ.out m hmi
              by_cases hm0 : m = 0
              · have hL0 : LM = 0 := by rw [← HLMe.out, hm0]; rfl
                subst hL0
                have hmp : ¬ ((0 : Int) < (m : Int)) := by omega
                have hmz : ((m : Int) == 0) = true := by rw [beq_iff_eq]; omega
                have HM0 := Lib.hid hm0
                clear hm0
                go_wp2_with (go_at_call 8; refine (HSM.out _ (Below.refl _ _)).mono ?_; rintro e w6 ⟨rfl, k6, rfl⟩)
                have CE6 := end_zero' (w5.drewN k6) (.slice (some ⟨ge, 0, none⟩) n ce) m HM0.out
                have hbw6 := below_drewN hb5' k6
                obtain ⟨w6, hw6⟩ : ∃ w6, w5.drewN k6 = w6 := ⟨_, rfl⟩
                rw [hw6] at hbw6 CE6 ⊢
                obtain ⟨hao, hbwT⟩ := HT.out.at_ (by omega)
                have cTm := (hbw6.cell (p := ⟨b, off + m, none⟩) hbwT).trans (HT.out.cell m hmi)
                cases hao
                obtain ⟨x, hx⟩ : ∃ x, T m = x := ⟨_, rfl⟩
                rw [hx] at cTm HTi
                clear hw6 hx
                refine CE6.mono ?_
                rintro e w7 ⟨rfl, rfl⟩
                by_cases hkL : k = 0
                · have hkLi : ((k : Int) == 0) = true := by rw [beq_iff_eq]; omega
                  clear hkL
                  by_cases h63 : (63 : Int) < (x.size : Int)
                  · go_wp2_with fail
                    go_ret
                    exact ⟨rfl, hbw6⟩
                  · skip
                    have hkS2 : k < S.size := by rw [beq_eq_false_iff_ne] at hkS; omega
                    obtain ⟨C7, W7, hrun7, hC7, hcell7, hfr7, hb7⟩ := conv_bytes w6 S
                    have hbw7 := hbw6.trans (hb7.mono hbw6.size)
                    have x7 := hcell7 k hkS2
                    have f7 := hfr7 k hkS2
                    have hturn : ∀ y : Int, (convert 32 9 (.slice (some ⟨w6.heap.size, 0, none⟩) S.size C7)).run Try.prog (W7.setCell ⟨w6.heap.size, k, none⟩ (.int .u8 y)) = .ok (.string (strOfNums ((bl S).set k y))) (W7.setCell ⟨w6.heap.size, k, none⟩ (.int .u8 y)) := fun y => by
                      have := conv_turned (W := W7) (g := w6.heap.size) (C := C7) (k := k) (L := bl S) (fun j hj => hcell7 j (by rw [bl_length] at hj; exact hj)) (by rw [bl_length]; exact hkS2) y
                      rwa [bl_length] at this
                    have hset : ∀ y : Int, Below w.heap.size w (W7.setCell ⟨w6.heap.size, k, none⟩ (.int .u8 y)) := fun y => hbw7.setCell (show w.heap.size ≤ w6.heap.size from hbw6.size) _
                    have ST := fun (y : Int) (X : World) => split_turned T F HF.out i m k hmle HT10.out (by have := HLMe.out; omega) S HBA.out hkS2 (by omega) y X
                    have HST := Lib.hid ST
                    have HSET := Lib.hid hset
                    have hki : (0 : Int) ≤ (k : Int) := by omega
                    have hki2 : (k : Int) < (S.size : Int) := by omega
                    obtain ⟨v7, hv7⟩ : ∃ v, (bl S).getD k 0 = v := ⟨_, rfl⟩
                    rw [hv7] at x7
                    obtain ⟨b7, hb7e⟩ : ∃ z, bit % 8 = z := ⟨_, rfl⟩
                    have hb7b : 0 ≤ b7 ∧ b7 < 8 := by omega
                    obtain ⟨hb70, hb71⟩ := hb7b
                    have HKSM := Lib.hid hturn
                    clear hcell7 hfr7 hv7 ST hset hbw7 hb7
                    go_wp2_with fail
                    refine (HST.out _ _).mono ?_
                    rintro e w8 ht8
                    obtain ⟨a8, c8, nn8, X8, rfl, ho8, hb8⟩ := ht8
                    have hw8 := (HSET.out _).trans (hb8.mono (HSET.out _).size)
                    have hrm8 := ho8.room
                    have hl8 : (((List.range m).map T ++ X8).map Value.string).length = m + X8.length := by simp
                    rw [hl8] at hrm8
                    have hTm8 : ∀ j, j < m → (((List.range m).map T ++ X8).map Value.string)[j]? = some (.string (T j)) := fun j hj => by
                      rw [List.map_append, List.getElem?_append_left (by simpa using hj)]; simp [hj]
                    have SM8 : ∀ X, Below w8.heap.size w8 X → Calls Try.prog 8 #[.slice a8 m c8, .slice (some ⟨b, off, none⟩) m cap] X fun e w' => e = .returned (.bool true) ∧ Below w8.heap.size w8 w' := by
                      intro X hX
                      have hoX := ho8.below hX
                      by_cases hz : 0 < m
                      · obtain ⟨g8, rfl, _, _⟩ := ho8.headAt (by rw [hl8]; omega)
                        exact (same_true X _ _ g8 0 b off m _ _ T (by omega) (fun _ => rfl) (fun _ => rfl) (fun j hj => by rw [Nat.zero_add]; exact hoX.cell j _ (hTm8 j hj)) (fun j hj => ((hw8.trans (hX.mono hw8.size)).cell (p := ⟨b, off + j, none⟩) hbwT).trans (HT.out.cell j (by omega)))).mono fun e w' ⟨h1, k, h2⟩ => ⟨h1, by rw [h2]; exact below_drewN hX k⟩
                      · exact (same_true X _ _ 0 0 0 0 m _ _ (fun _ => emp) (by omega) (fun h => absurd h hz) (fun h => absurd h hz) (fun j hj => absurd hj (by omega)) (fun j hj => absurd hj (by omega))).mono fun e w' ⟨h1, k, h2⟩ => ⟨h1, by rw [h2]; exact below_drewN hX k⟩
                    have HSM8 := Lib.hid SM8
                    have hm8 : (m : Int) ≤ (m : Int) + (X8.length : Int) := by omega
                    have hm8c : (m : Int) ≤ (c8 : Int) := by omega
                    clear SM8 hTm8 hl8 ho8 hb8 hturn
                    go_wp2_with fail
                    refine wp_region_class (fun X => Below w8.heap.size w8 X) (by kernel_rfl) (by kernel_rfl) (below_drewN (Below.refl w8.heap.size w8) 1) ?_
                    repeat (first
                      | (refine q_skip rfl ?_; simp only [Act.put, List.setIfInBounds_toArray, List.set_cons_zero, List.set_cons_succ])
                      | (refine q_callX rfl 8 ?_; apply Exists.intro; refine ⟨fun w => by go_simp; rfl, ?_⟩; refine ⟨_, fun w' h => HSM8.out w' h, ?_⟩; simp only [Act.put, List.setIfInBounds_toArray, List.set_cons_zero, List.set_cons_succ])
                      | (refine q_step rfl ?_; apply Exists.intro; refine ⟨fun w => by go_simp; rfl, ?_⟩; simp only [Act.put, List.setIfInBounds_toArray, List.set_cons_zero, List.set_cons_succ])
                      | (refine q_nil ?_))
                    intro wz hwz
                    go_wp2_with fail
                    go_ret
                    exact ⟨rfl, hw8.trans (hwz.mono hw8.size)⟩
                · have hkLi : ((k : Int) == 0) = false := by rw [beq_eq_false_iff_ne]; omega
                  have hkS2 : k < S.size := by rw [beq_eq_false_iff_ne] at hkS; omega
                  obtain ⟨C7, W7, hrun7, hC7, hcell7, hfr7, hb7⟩ := conv_bytes w6 S
                  have hbw7 := hbw6.trans (hb7.mono hbw6.size)
                  have x7 := hcell7 k hkS2
                  have f7 := hfr7 k hkS2
                  have hturn : ∀ y : Int, (convert 32 9 (.slice (some ⟨w6.heap.size, 0, none⟩) S.size C7)).run Try.prog (W7.setCell ⟨w6.heap.size, k, none⟩ (.int .u8 y)) = .ok (.string (strOfNums ((bl S).set k y))) (W7.setCell ⟨w6.heap.size, k, none⟩ (.int .u8 y)) := fun y => by
                    have := conv_turned (W := W7) (g := w6.heap.size) (C := C7) (k := k) (L := bl S) (fun j hj => hcell7 j (by rw [bl_length] at hj; exact hj)) (by rw [bl_length]; exact hkS2) y
                    rwa [bl_length] at this
                  have hset : ∀ y : Int, Below w.heap.size w (W7.setCell ⟨w6.heap.size, k, none⟩ (.int .u8 y)) := fun y => hbw7.setCell (show w.heap.size ≤ w6.heap.size from hbw6.size) _
                  have ST := fun (y : Int) (X : World) => split_turned T F HF.out i m k hmle HT10.out (by have := HLMe.out; omega) S HBA.out hkS2 (by omega) y X
                  have HST := Lib.hid ST
                  have HSET := Lib.hid hset
                  have hki : (0 : Int) ≤ (k : Int) := by omega
                  have hki2 : (k : Int) < (S.size : Int) := by omega
                  obtain ⟨v7, hv7⟩ : ∃ v, (bl S).getD k 0 = v := ⟨_, rfl⟩
                  rw [hv7] at x7
                  obtain ⟨b7, hb7e⟩ : ∃ z, bit % 8 = z := ⟨_, rfl⟩
                  have hb7b : 0 ≤ b7 ∧ b7 < 8 := by omega
                  obtain ⟨hb70, hb71⟩ := hb7b
                  have HKSM := Lib.hid hturn
                  clear hcell7 hfr7 hv7 ST hset hbw7 hb7
                  go_wp2_with fail
                  refine (HST.out _ _).mono ?_
                  rintro e w8 ht8
                  obtain ⟨a8, c8, nn8, X8, rfl, ho8, hb8⟩ := ht8
                  have hw8 := (HSET.out _).trans (hb8.mono (HSET.out _).size)
                  have hrm8 := ho8.room
                  have hl8 : (((List.range m).map T ++ X8).map Value.string).length = m + X8.length := by simp
                  rw [hl8] at hrm8
                  have hTm8 : ∀ j, j < m → (((List.range m).map T ++ X8).map Value.string)[j]? = some (.string (T j)) := fun j hj => by
                    rw [List.map_append, List.getElem?_append_left (by simpa using hj)]; simp [hj]
                  have SM8 : ∀ X, Below w8.heap.size w8 X → Calls Try.prog 8 #[.slice a8 m c8, .slice (some ⟨b, off, none⟩) m cap] X fun e w' => e = .returned (.bool true) ∧ Below w8.heap.size w8 w' := by
                    intro X hX
                    have hoX := ho8.below hX
                    by_cases hz : 0 < m
                    · obtain ⟨g8, rfl, _, _⟩ := ho8.headAt (by rw [hl8]; omega)
                      exact (same_true X _ _ g8 0 b off m _ _ T (by omega) (fun _ => rfl) (fun _ => rfl) (fun j hj => by rw [Nat.zero_add]; exact hoX.cell j _ (hTm8 j hj)) (fun j hj => ((hw8.trans (hX.mono hw8.size)).cell (p := ⟨b, off + j, none⟩) hbwT).trans (HT.out.cell j (by omega)))).mono fun e w' ⟨h1, k, h2⟩ => ⟨h1, by rw [h2]; exact below_drewN hX k⟩
                    · exact (same_true X _ _ 0 0 0 0 m _ _ (fun _ => emp) (by omega) (fun h => absurd h hz) (fun h => absurd h hz) (fun j hj => absurd hj (by omega)) (fun j hj => absurd hj (by omega))).mono fun e w' ⟨h1, k, h2⟩ => ⟨h1, by rw [h2]; exact below_drewN hX k⟩
                  have HSM8 := Lib.hid SM8
                  have hm8 : (m : Int) ≤ (m : Int) + (X8.length : Int) := by omega
                  have hm8c : (m : Int) ≤ (c8 : Int) := by omega
                  clear SM8 hTm8 hl8 ho8 hb8 hturn
                  go_wp2_with fail
                  refine wp_region_class (fun X => Below w8.heap.size w8 X) (by kernel_rfl) (by kernel_rfl) (below_drewN (Below.refl w8.heap.size w8) 1) ?_
                  repeat (first
                    | (refine q_skip rfl ?_; simp only [Act.put, List.setIfInBounds_toArray, List.set_cons_zero, List.set_cons_succ])
                    | (refine q_callX rfl 8 ?_; apply Exists.intro; refine ⟨fun w => by go_simp; rfl, ?_⟩; refine ⟨_, fun w' h => HSM8.out w' h, ?_⟩; simp only [Act.put, List.setIfInBounds_toArray, List.set_cons_zero, List.set_cons_succ])
                    | (refine q_step rfl ?_; apply Exists.intro; refine ⟨fun w => by go_simp; rfl, ?_⟩; simp only [Act.put, List.setIfInBounds_toArray, List.set_cons_zero, List.set_cons_succ])
                    | (refine q_nil ?_))
                  intro wz hwz
                  go_wp2_with fail
                  go_ret
                  exact ⟨rfl, hw8.trans (hwz.mono hw8.size)⟩
              · obtain ⟨mm, hmm⟩ : ∃ mm : Nat, (m : Int) - 1 = (mm : Int) := ⟨m - 1, by omega⟩
                have hmm2 : mm + 1 = m := by omega
                obtain ⟨ge2, hge2, hgeB, hgeS⟩ := HO5.out.headAt (by rw [EN_len]; omega)
                have ce5 := fun (k6 : Nat) => HO5.out.cell' hge2 mm (by rw [EN_len]; omega) k6
                rw [EN_get F i mm (by omega), hmm2, HLMe.out] at ce5
                have hmp : (0 : Int) < (m : Int) := by omega
                have hmz : ((m : Int) == 0) = false := by rw [beq_eq_false_iff_ne]; omega
                have hmn2 : (mm : Int) < (n : Int) := by omega
                have HCE5 := Lib.hid ce5
                have HMM2 := Lib.hid hmm2
                have hm0' : 0 < m := Nat.pos_of_ne_zero hm0
                clear ce5 hmm2 hm0
                cases hge2
                go_wp2_with (go_at_call 8; refine (HSM.out _ (Below.refl _ _)).mono ?_; rintro e w6 ⟨rfl, k6, rfl⟩; have ce6 := HCE5.out k6)
                have CE6 := end_pos (w5.drewN k6) ge n ce m (LM : Int) hm0' (by omega) (by omega) (by rw [show m - 1 = mm by omega]; exact ce6)
                have hbw6 := below_drewN hb5' k6
                obtain ⟨w6, hw6⟩ : ∃ w6, w5.drewN k6 = w6 := ⟨_, rfl⟩
                rw [hw6] at hbw6 CE6 ⊢
                obtain ⟨hao, hbwT⟩ := HT.out.at_ (by omega)
                have cTm := (hbw6.cell (p := ⟨b, off + m, none⟩) hbwT).trans (HT.out.cell m hmi)
                cases hao
                obtain ⟨x, hx⟩ : ∃ x, T m = x := ⟨_, rfl⟩
                rw [hx] at cTm HTi
                clear hw6 hx
                refine CE6.mono ?_
                rintro e w7 ⟨rfl, rfl⟩
                by_cases hkL : k = LM
                · have hkLi : ((k : Int) == (LM : Int)) = true := by rw [beq_iff_eq]; omega
                  clear hkL
                  by_cases h63 : (63 : Int) < (x.size : Int)
                  · go_wp2_with fail
                    go_ret
                    exact ⟨rfl, hbw6⟩
                  · skip
                    have hkS2 : k < S.size := by rw [beq_eq_false_iff_ne] at hkS; omega
                    obtain ⟨C7, W7, hrun7, hC7, hcell7, hfr7, hb7⟩ := conv_bytes w6 S
                    have hbw7 := hbw6.trans (hb7.mono hbw6.size)
                    have x7 := hcell7 k hkS2
                    have f7 := hfr7 k hkS2
                    have hturn : ∀ y : Int, (convert 32 9 (.slice (some ⟨w6.heap.size, 0, none⟩) S.size C7)).run Try.prog (W7.setCell ⟨w6.heap.size, k, none⟩ (.int .u8 y)) = .ok (.string (strOfNums ((bl S).set k y))) (W7.setCell ⟨w6.heap.size, k, none⟩ (.int .u8 y)) := fun y => by
                      have := conv_turned (W := W7) (g := w6.heap.size) (C := C7) (k := k) (L := bl S) (fun j hj => hcell7 j (by rw [bl_length] at hj; exact hj)) (by rw [bl_length]; exact hkS2) y
                      rwa [bl_length] at this
                    have hset : ∀ y : Int, Below w.heap.size w (W7.setCell ⟨w6.heap.size, k, none⟩ (.int .u8 y)) := fun y => hbw7.setCell (show w.heap.size ≤ w6.heap.size from hbw6.size) _
                    have ST := fun (y : Int) (X : World) => split_turned T F HF.out i m k hmle HT10.out (by have := HLMe.out; omega) S HBA.out hkS2 (by omega) y X
                    have HST := Lib.hid ST
                    have HSET := Lib.hid hset
                    have hki : (0 : Int) ≤ (k : Int) := by omega
                    have hki2 : (k : Int) < (S.size : Int) := by omega
                    obtain ⟨v7, hv7⟩ : ∃ v, (bl S).getD k 0 = v := ⟨_, rfl⟩
                    rw [hv7] at x7
                    obtain ⟨b7, hb7e⟩ : ∃ z, bit % 8 = z := ⟨_, rfl⟩
                    have hb7b : 0 ≤ b7 ∧ b7 < 8 := by omega
                    obtain ⟨hb70, hb71⟩ := hb7b
                    have HKSM := Lib.hid hturn
                    clear hcell7 hfr7 hv7 ST hset hbw7 hb7
                    go_wp2_with fail
                    refine (HST.out _ _).mono ?_
                    rintro e w8 ht8
                    obtain ⟨a8, c8, nn8, X8, rfl, ho8, hb8⟩ := ht8
                    have hw8 := (HSET.out _).trans (hb8.mono (HSET.out _).size)
                    have hrm8 := ho8.room
                    have hl8 : (((List.range m).map T ++ X8).map Value.string).length = m + X8.length := by simp
                    rw [hl8] at hrm8
                    have hTm8 : ∀ j, j < m → (((List.range m).map T ++ X8).map Value.string)[j]? = some (.string (T j)) := fun j hj => by
                      rw [List.map_append, List.getElem?_append_left (by simpa using hj)]; simp [hj]
                    have SM8 : ∀ X, Below w8.heap.size w8 X → Calls Try.prog 8 #[.slice a8 m c8, .slice (some ⟨b, off, none⟩) m cap] X fun e w' => e = .returned (.bool true) ∧ Below w8.heap.size w8 w' := by
                      intro X hX
                      have hoX := ho8.below hX
                      by_cases hz : 0 < m
                      · obtain ⟨g8, rfl, _, _⟩ := ho8.headAt (by rw [hl8]; omega)
                        exact (same_true X _ _ g8 0 b off m _ _ T (by omega) (fun _ => rfl) (fun _ => rfl) (fun j hj => by rw [Nat.zero_add]; exact hoX.cell j _ (hTm8 j hj)) (fun j hj => ((hw8.trans (hX.mono hw8.size)).cell (p := ⟨b, off + j, none⟩) hbwT).trans (HT.out.cell j (by omega)))).mono fun e w' ⟨h1, k, h2⟩ => ⟨h1, by rw [h2]; exact below_drewN hX k⟩
                      · exact (same_true X _ _ 0 0 0 0 m _ _ (fun _ => emp) (by omega) (fun h => absurd h hz) (fun h => absurd h hz) (fun j hj => absurd hj (by omega)) (fun j hj => absurd hj (by omega))).mono fun e w' ⟨h1, k, h2⟩ => ⟨h1, by rw [h2]; exact below_drewN hX k⟩
                    have HSM8 := Lib.hid SM8
                    have hm8 : (m : Int) ≤ (m : Int) + (X8.length : Int) := by omega
                    have hm8c : (m : Int) ≤ (c8 : Int) := by omega
                    clear SM8 hTm8 hl8 ho8 hb8 hturn
                    go_wp2_with fail
                    refine wp_region_class (fun X => Below w8.heap.size w8 X) (by kernel_rfl) (by kernel_rfl) (below_drewN (Below.refl w8.heap.size w8) 1) ?_
                    repeat (first
                      | (refine q_skip rfl ?_; simp only [Act.put, List.setIfInBounds_toArray, List.set_cons_zero, List.set_cons_succ])
                      | (refine q_callX rfl 8 ?_; apply Exists.intro; refine ⟨fun w => by go_simp; rfl, ?_⟩; refine ⟨_, fun w' h => HSM8.out w' h, ?_⟩; simp only [Act.put, List.setIfInBounds_toArray, List.set_cons_zero, List.set_cons_succ])
                      | (refine q_step rfl ?_; apply Exists.intro; refine ⟨fun w => by go_simp; rfl, ?_⟩; simp only [Act.put, List.setIfInBounds_toArray, List.set_cons_zero, List.set_cons_succ])
                      | (refine q_nil ?_))
                    intro wz hwz
                    go_wp2_with fail
                    go_ret
                    exact ⟨rfl, hw8.trans (hwz.mono hw8.size)⟩
                · have hkLi : ((k : Int) == (LM : Int)) = false := by rw [beq_eq_false_iff_ne]; omega
                  have hkS2 : k < S.size := by rw [beq_eq_false_iff_ne] at hkS; omega
                  obtain ⟨C7, W7, hrun7, hC7, hcell7, hfr7, hb7⟩ := conv_bytes w6 S
                  have hbw7 := hbw6.trans (hb7.mono hbw6.size)
                  have x7 := hcell7 k hkS2
                  have f7 := hfr7 k hkS2
                  have hturn : ∀ y : Int, (convert 32 9 (.slice (some ⟨w6.heap.size, 0, none⟩) S.size C7)).run Try.prog (W7.setCell ⟨w6.heap.size, k, none⟩ (.int .u8 y)) = .ok (.string (strOfNums ((bl S).set k y))) (W7.setCell ⟨w6.heap.size, k, none⟩ (.int .u8 y)) := fun y => by
                    have := conv_turned (W := W7) (g := w6.heap.size) (C := C7) (k := k) (L := bl S) (fun j hj => hcell7 j (by rw [bl_length] at hj; exact hj)) (by rw [bl_length]; exact hkS2) y
                    rwa [bl_length] at this
                  have hset : ∀ y : Int, Below w.heap.size w (W7.setCell ⟨w6.heap.size, k, none⟩ (.int .u8 y)) := fun y => hbw7.setCell (show w.heap.size ≤ w6.heap.size from hbw6.size) _
                  have ST := fun (y : Int) (X : World) => split_turned T F HF.out i m k hmle HT10.out (by have := HLMe.out; omega) S HBA.out hkS2 (by omega) y X
                  have HST := Lib.hid ST
                  have HSET := Lib.hid hset
                  have hki : (0 : Int) ≤ (k : Int) := by omega
                  have hki2 : (k : Int) < (S.size : Int) := by omega
                  obtain ⟨v7, hv7⟩ : ∃ v, (bl S).getD k 0 = v := ⟨_, rfl⟩
                  rw [hv7] at x7
                  obtain ⟨b7, hb7e⟩ : ∃ z, bit % 8 = z := ⟨_, rfl⟩
                  have hb7b : 0 ≤ b7 ∧ b7 < 8 := by omega
                  obtain ⟨hb70, hb71⟩ := hb7b
                  have HKSM := Lib.hid hturn
                  clear hcell7 hfr7 hv7 ST hset hbw7 hb7
                  go_wp2_with fail
                  refine (HST.out _ _).mono ?_
                  rintro e w8 ht8
                  obtain ⟨a8, c8, nn8, X8, rfl, ho8, hb8⟩ := ht8
                  have hw8 := (HSET.out _).trans (hb8.mono (HSET.out _).size)
                  have hrm8 := ho8.room
                  have hl8 : (((List.range m).map T ++ X8).map Value.string).length = m + X8.length := by simp
                  rw [hl8] at hrm8
                  have hTm8 : ∀ j, j < m → (((List.range m).map T ++ X8).map Value.string)[j]? = some (.string (T j)) := fun j hj => by
                    rw [List.map_append, List.getElem?_append_left (by simpa using hj)]; simp [hj]
                  have SM8 : ∀ X, Below w8.heap.size w8 X → Calls Try.prog 8 #[.slice a8 m c8, .slice (some ⟨b, off, none⟩) m cap] X fun e w' => e = .returned (.bool true) ∧ Below w8.heap.size w8 w' := by
                    intro X hX
                    have hoX := ho8.below hX
                    by_cases hz : 0 < m
                    · obtain ⟨g8, rfl, _, _⟩ := ho8.headAt (by rw [hl8]; omega)
                      exact (same_true X _ _ g8 0 b off m _ _ T (by omega) (fun _ => rfl) (fun _ => rfl) (fun j hj => by rw [Nat.zero_add]; exact hoX.cell j _ (hTm8 j hj)) (fun j hj => ((hw8.trans (hX.mono hw8.size)).cell (p := ⟨b, off + j, none⟩) hbwT).trans (HT.out.cell j (by omega)))).mono fun e w' ⟨h1, k, h2⟩ => ⟨h1, by rw [h2]; exact below_drewN hX k⟩
                    · exact (same_true X _ _ 0 0 0 0 m _ _ (fun _ => emp) (by omega) (fun h => absurd h hz) (fun h => absurd h hz) (fun j hj => absurd hj (by omega)) (fun j hj => absurd hj (by omega))).mono fun e w' ⟨h1, k, h2⟩ => ⟨h1, by rw [h2]; exact below_drewN hX k⟩
                  have HSM8 := Lib.hid SM8
                  have hm8 : (m : Int) ≤ (m : Int) + (X8.length : Int) := by omega
                  have hm8c : (m : Int) ≤ (c8 : Int) := by omega
                  clear SM8 hTm8 hl8 ho8 hb8 hturn
                  go_wp2_with fail
                  refine wp_region_class (fun X => Below w8.heap.size w8 X) (by kernel_rfl) (by kernel_rfl) (below_drewN (Below.refl w8.heap.size w8) 1) ?_
                  repeat (first
                    | (refine q_skip rfl ?_; simp only [Act.put, List.setIfInBounds_toArray, List.set_cons_zero, List.set_cons_succ])
                    | (refine q_callX rfl 8 ?_; apply Exists.intro; refine ⟨fun w => by go_simp; rfl, ?_⟩; refine ⟨_, fun w' h => HSM8.out w' h, ?_⟩; simp only [Act.put, List.setIfInBounds_toArray, List.set_cons_zero, List.set_cons_succ])
                    | (refine q_step rfl ?_; apply Exists.intro; refine ⟨fun w => by go_simp; rfl, ?_⟩; simp only [Act.put, List.setIfInBounds_toArray, List.set_cons_zero, List.set_cons_succ])
                    | (refine q_nil ?_))
                  intro wz hwz
                  go_wp2_with fail
                  go_ret
                  exact ⟨rfl, hw8.trans (hwz.mono hw8.size)⟩
          · have hmle : m ≤ i := by omega
            have hmi' : m = i := by omega
            have hlti : ¬ ((m : Int) < (n : Int)) := by omega
            have hex : m < i → k < (upto F (m + 1)).length := fun h => absurd h hmi
            have HMI := Lib.hid hmi'
            clear hmi'
            go_wp2_with fail
            have hLm : (upto F m).length ≤ k := by
              by_cases h0 : m = 0
              · subst h0; exact Nat.zero_le _
              · have := HMK.out (m - 1) (by omega)
                rwa [show m - 1 + 1 = m by omega] at this
            have hT10 : ∀ j, j < i → (T j).size ≤ 1048576 := fun j hj => by have := HSZ.out j hj; omega
            have hblk : bl (S.extract 0 k) = (upto F i).take k := by rw [bl_extract, HBA.out, List.drop_zero, Nat.sub_zero]
            have hsp := cut_sp T F HF.out i m k hmle hT10 hLm hex (S.extract 0 k) hblk
            have C5 := split_any wr (S.extract 0 k) (by rw [ByteArray.size_extract]; omega)
            rw [hsp] at C5
            have HC5 := Lib.hid C5
            have HLM := Lib.hid hLm
            have HT10 := Lib.hid hT10
            clear C5 hsp hblk hT10
            refine HC5.out.mono ?_
            rintro e w5 ⟨a5, c5, rfl, ho5, hb5⟩
            have hb5' := hb.trans (hb5.mono hb.size)
            have hbs := hb.size
            have hTm : ∀ j, j < m → (((List.range m).map T).map Value.string)[j]? = some (.string (T j)) := fun j hj => by simp [hj]
            have hmcap : (m : Int) ≤ (cap : Int) := by omega
            have SM : ∀ X, Below w5.heap.size w5 X → Calls Try.prog 8 #[.slice a5 m c5, .slice ao m cap] X fun e w' => e = .returned (.bool true) ∧ ∃ k, w' = X.drewN k := by
              intro X hX
              by_cases hz : 0 < m
              · obtain ⟨rfl, hbw⟩ := HT.out.at_ (by omega)
                obtain ⟨g5, rfl, _, _⟩ := ho5.headAt (by simp; exact hz)
                have hoX := ho5.below hX
                exact same_true X _ _ g5 0 b off m _ _ T (by omega) (fun _ => rfl) (fun _ => rfl) (fun j hj => by rw [Nat.zero_add]; exact hoX.cell j _ (hTm j hj)) (fun j hj => ((hb5'.trans (hX.mono hb5'.size)).cell (p := ⟨b, off + j, none⟩) hbw).trans (HT.out.cell j (by omega)))
              · exact same_true X _ _ 0 0 0 0 m _ _ (fun _ => emp) (by omega) (fun h => absurd h hz) (fun h => absurd h hz) (fun j hj => absurd hj (by omega)) (fun j hj => absurd hj (by omega))
            have HSM := Lib.hid SM
            have hO5 := HO.out.below hb5
            have HO5 := Lib.hid hO5
            clear SM hTm ho5 hO5 hb5
            obtain ⟨LM, hLMe⟩ : ∃ LM, (upto F m).length = LM := ⟨_, rfl⟩
            rw [hLMe]
            have hLMk : LM ≤ k := by rw [← hLMe]; exact HLM.out
            have HLMe := Lib.hid hLMe
            clear hLMe
            have hkn : k ≤ S.size := hkl
            have hkS : ((k : Int) == (S.size : Int)) = true := by
              rw [beq_iff_eq]
              have h1 := HLMe.out
              have h2 := HZZ.out
              have h3 := HMI.out
              rw [h3] at h1
              omega
            by_cases hm0 : m = 0
            · have hL0 : LM = 0 := by rw [← HLMe.out, hm0]; rfl
              subst hL0
              have hmp : ¬ ((0 : Int) < (m : Int)) := by omega
              have hmz : ((m : Int) == 0) = true := by rw [beq_iff_eq]; omega
              have HM0 := Lib.hid hm0
              clear hm0
              go_wp2_with (go_at_call 8; refine (HSM.out _ (Below.refl _ _)).mono ?_; rintro e w6 ⟨rfl, k6, rfl⟩)
              go_ret
              exact ⟨rfl, below_drewN hb5' k6⟩
            · obtain ⟨mm, hmm⟩ : ∃ mm : Nat, (m : Int) - 1 = (mm : Int) := ⟨m - 1, by omega⟩
              have hmm2 : mm + 1 = m := by omega
              obtain ⟨ge2, hge2, hgeB, hgeS⟩ := HO5.out.headAt (by rw [EN_len]; omega)
              have ce5 := fun (k6 : Nat) => HO5.out.cell' hge2 mm (by rw [EN_len]; omega) k6
              rw [EN_get F i mm (by omega), hmm2, HLMe.out] at ce5
              have hmp : (0 : Int) < (m : Int) := by omega
              have hmz : ((m : Int) == 0) = false := by rw [beq_eq_false_iff_ne]; omega
              have hmn2 : (mm : Int) < (n : Int) := by omega
              have HCE5 := Lib.hid ce5
              have HMM2 := Lib.hid hmm2
              have hm0' : 0 < m := Nat.pos_of_ne_zero hm0
              clear ce5 hmm2 hm0
              cases hge2
              go_wp2_with (go_at_call 8; refine (HSM.out _ (Below.refl _ _)).mono ?_; rintro e w6 ⟨rfl, k6, rfl⟩; have ce6 := HCE5.out k6)
              go_ret
              exact ⟨rfl, below_drewN hb5' k6⟩
end Go.Proofs.Ytekbfaafofflaaa
