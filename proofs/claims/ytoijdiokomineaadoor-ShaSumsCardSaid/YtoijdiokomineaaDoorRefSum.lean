/-
  The walk of siloref03.Sum.
-/
import Derived.Test.YtoijdiokomineaaDoorBlocks
import Derived.Deep.RegionLaw
namespace Go.Proofs.YtoijdiokomineaaDoor
open Go.RowKit
set_option linter.unusedVariables false

/-- What the call keeps: the result's cell, the state, the numbers. -/
structure RS (w wr : World) (H : Nat → Int) : Prop where
  h0 : wr.heap[w.heap.size]? = some (.cells (nums .u8 (fun _ => 0) 32) 25 (0,0))
  h1 : wr.heap[w.heap.size+1]? = some (.cells (nums .u32 H 8) 29 (0,0))
  h2 : wr.heap[w.heap.size+1+1]? = some (.cells (nums .u32 kv 64) 29 (0,0))
  sz : w.heap.size + 3 ≤ wr.heap.size
  below : Below w.heap.size w wr
theorem RS.later {w wr wx : World} {H : Nat → Int} (h : RS w wr H) (hb : Below wr.heap.size wr wx) : RS w wx H :=
  ⟨(hb.block _ (by have := h.sz; omega)).trans h.h0, (hb.block _ (by have := h.sz; omega)).trans h.h1, (hb.block _ (by have := h.sz; omega)).trans h.h2, by have := h.sz; have := hb.size; omega, h.below.trans (hb.mono h.below.size)⟩
theorem RS.drewN {w wr : World} {H : Nat → Int} (h : RS w wr H) (n : Nat) : RS w (wr.drewN n) H := ⟨h.h0, h.h1, h.h2, h.sz, below_drewN h.below n⟩
theorem RS.drew {w wr : World} {H : Nat → Int} (h : RS w wr H) : RS w wr.drew H := ⟨h.h0, h.h1, h.h2, h.sz, h.below.drew⟩
theorem RS.congr {w wr : World} {H H' : Nat → Int} (h : RS w wr H) (e : ∀ j, j < 8 → H j = H' j) : RS w wr H' := ⟨h.h0, by rw [← nums_congr _ _ _ _ e]; exact h.h1, h.h2, h.sz, h.below⟩
theorem RS.store {w wr : World} {H : Nat → Int} (h : RS w wr H) (i : Nat) (v : Int) : RS w (wr.setCell ⟨w.heap.size+1, i, none⟩ (.int .u32 v)) (fun j => if j = i then v else H j) :=
  ⟨by rw [heap_setCell_other _ _ _ _ (by simp)]; exact h.h0, nums_store h.h1 i v, by rw [heap_setCell_other _ _ _ _ (by simp)]; exact h.h2, by simpa using h.sz, h.below.setCell (by simp) _⟩
theorem new1 (w : World) (k : IntKind) (y : Int) (t : TypeId) : (w.alloc (.cells #[Value.int k y] t)).cell? ⟨w.heap.size, 0, none⟩ = some (.int k y) := by simp
theorem rs_start (w w1 : World) (a b c : Obj) (ha : a = .cells (nums .u8 (fun _ => 0) 32) 25 (0,0)) (hb : b = .cells (nums .u32 hstart 8) 29 (0,0)) (hc : c = .cells (nums .u32 kv 64) 29 (0,0))
    (h : Below (((w.alloc a).alloc b).alloc c).heap.size (((w.alloc a).alloc b).alloc c) w1) : RS w w1 hstart := by
  subst ha; subst hb; subst hc
  refine RS.later (wr := ((w.alloc _).alloc _).alloc _) ⟨?_, ?_, ?_, by simp, (((Below.refl _ _).alloc (Nat.le_refl _) _).alloc (by simp) _).alloc (by simp <;> omega) _⟩ h
  · rw [heap_old _ _ _ (by simp <;> omega), heap_old _ _ _ (by simp), heap_new]
  · rw [heap_old _ _ _ (by simp), heap_new' _ _ _ (by simp)]
  · rw [heap_new' _ _ _ (by simp)]

/-- The key's bytes: words ahead of i, and of word i the last m bytes. -/
def kpart (H : Nat → Int) (i m j : Nat) : Int := if j < 4 * i ∨ (4 * i + (4 - m) ≤ j ∧ j < 4 * i + 4) then keyOf H j else 0

structure KS (w wr : World) (H : Nat → Int) (kb : Nat) (f : Nat → Int) : Prop where
  rs : RS w wr H
  hk : wr.heap[kb]? = some (.cells (nums .u8 f 32) 25 (0,0))
  kb3 : w.heap.size + 3 ≤ kb
theorem KS.store {w wr : World} {H f : Nat → Int} {kb : Nat} (h : KS w wr H kb f) (i : Nat) (v : Int) : KS w (wr.setCell ⟨kb, i, none⟩ (.int .u8 v)) H kb (fun j => if j = i then v else f j) :=
  ⟨⟨by rw [heap_setCell_other _ _ _ _ (by have := h.kb3; simp; omega)]; exact h.rs.h0, by rw [heap_setCell_other _ _ _ _ (by have := h.kb3; simp; omega)]; exact h.rs.h1,
    by rw [heap_setCell_other _ _ _ _ (by have := h.kb3; simp; omega)]; exact h.rs.h2, by simpa using h.rs.sz, h.rs.below.setCell (by have := h.kb3; simp; omega) _⟩, nums_store h.hk i v, h.kb3⟩
theorem KS.congr {w wr : World} {H f g : Nat → Int} {kb : Nat} (h : KS w wr H kb f) (e : ∀ j, j < 32 → f j = g j) : KS w wr H kb g := ⟨h.rs, by rw [← nums_congr _ _ _ _ e]; exact h.hk, h.kb3⟩

set_option maxRecDepth 100000 in
set_option maxHeartbeats 4000000 in
theorem rsum_any (s : ByteArray) (hs : s.size < 1099511600000) (w : World) :
    Calls Tryd.prog 8 #[.string s] w fun e w' => e = .returned (.agg (nums .u8 (shaKey (bl s)) 32)) ∧ Below w.heap.size w w' := by
  obtain ⟨n, hpl, hpn⟩ := pads_length (bl s)
  rw [bl_length] at hpn
  have hpu := pads_u8 (bl s) (bl_u8 s)
  have hfin := Hb_shaH (bl s) n hpl
  obtain ⟨p, hp⟩ : ∃ p, pads (bl s) = p := ⟨_, rfl⟩
  have hpad : ∀ wx, Calls Tryd.prog 19 #[.string s] wx fun e w' => e = .returned (.string (strOfNums p)) ∧ Below wx.heap.size wx w' := fun wx => by rw [← hp]; exact padded_any s hs wx
  rw [hp] at hpl hpu hfin
  clear hp
  have hps : (strOfNums p).size = 64 * n := by rw [strOfNums_size]; exact hpl
  have HFIN := Lib.hid hfin; have HPU := Lib.hid hpu; have HPL := Lib.hid hpl
  clear hfin hpu hpl
  go_enter Tryd.func8, Tryd.ntmps8
  go_wp2_with fail
  refine (numbers_any _).mono ?_
  rintro e w1 ⟨rfl, rfl⟩
  go_wp2_with fail
  refine (hpad _).mono ?_
  rintro e w1 ⟨rfl, hb1⟩
  have hr1 : RS w w1 (Hb p 0) := rs_start w w1 _ _ _ rfl rfl rfl hb1
  clear hb1 hpad
  go_wp2_with fail
  go_loopg [6] n (fun g v wr => ∃ b : Nat, b + g = n ∧ v = .int .i64 (64 * (b : Int)) ∧ RS w wr (Hb p b))
  case atStart => exact ⟨0, by omega, rfl, hr1⟩
  case round =>
    clear hr1
    obtain ⟨b, hbn, rfl, hR⟩ := hrel
    obtain ⟨wo, rfl⟩ : ∃ wo : World, wo = wr := ⟨_, rfl⟩
    have HR := Lib.hid hR
    have hwo := hR.sz
    clear hR
    by_cases hbl : b < n
    · have hlt : 64 * (b : Int) < 64 * (n : Int) := by omega
      obtain ⟨P, hP⟩ : ∃ P, blk p b = P := ⟨_, rfl⟩
      have hPu : ∀ j, U8 (P j) := by rw [← hP]; exact blk_u8 p HPU.out b
      have HPu := Lib.hid hPu; clear hPu
      have HP := Lib.hid hP; clear hP
      have hn0 := Own.nil wo wo.heap.size 29 .u32
      go_wp2_with fail
      go_loopg [7, 8] 64 (fun g v y wr => ∃ (i : Nat) (ao : Option Addr) (cap : Nat), i + g = 64 ∧ y = .int .i64 i ∧ v = .slice ao i cap ∧ Own wr wo.heap.size 29 .u32 ao cap (wl P i) ∧ Below wo.heap.size wo wr)
      case atStart => exact ⟨0, none, 0, rfl, rfl, rfl, hn0, Below.refl _ _⟩
      case round =>
        clear hn0
        obtain ⟨i, ao, cap, hi, rfl, rfl, ho, hb⟩ := hrel
        obtain ⟨wi, rfl⟩ : ∃ wi : World, wi = wr := ⟨_, rfl⟩
        have hszi := hb.size
        have hwl := wl_length P i
        have HWL := Lib.hid hwl; clear hwl
        by_cases h64 : i < 64
        · by_cases h16 : i < 16
          · go_wp2_with fail
            go_loopg [9, 10] 4 (fun g x y wr => ∃ k : Nat, k + g = 4 ∧ y = .int .i64 k ∧ x = .int .u32 (wordp P i k) ∧ wi = wr)
            case atStart => exact ⟨0, rfl, rfl, rfl, rfl⟩
            case round =>
              obtain ⟨k, hk, rfl, rfl, rfl⟩ := hrel
              by_cases h4 : k < 4
              · have hix := run_index_nums_text p HPU.out (64 * b + 4 * i + k) (by rw [HPL.out]; omega) (64 * (b : Int) + 4 * (i : Int) + (k : Int)) (by omega)
                have hval : p.getD (64 * b + 4 * i + k) 0 = P (4 * i + k) := by rw [← HP.out]; unfold blk; congr 1; omega
                rw [hval] at hix; clear hval
                have hu := HPu.out (4 * i + k)
                unfold U8 at hu
                have hwp : wordp P i (k + 1) = (256 * wordp P i k + P (4 * i + k)) % 4294967296 := rfl
                have HWP := Lib.hid hwp; clear hwp
                go_wp2_with fail
                go_roundg (4 - (k+1))
                case measure => omega
                case rel => exact ⟨k+1, by omega, by go_num, by rw [HWP.out]; go_num, rfl⟩
              · obtain rfl : k = 4 := by omega
                go_wp2_with (first
                  | (at_builtin; refine wpList_own_append1 rfl (.tmp 62) (.tmp 64) 40 rfl 29 .u32 4 und40 info29 (by decide) (ho.alloc _) rfl (by rw [HWL.out]) wi.heap.size 1 _ rfl (new1 _ _ _ _) (by rw [HWL.out]; omega) (by simp; omega) ?_; intro a3 c3 w3 ho3 hg3))
                have hb3 : Below wo.heap.size wo w3 := below_own (hb.alloc hszi _) (ho.alloc _) hg3 (Nat.le_refl _) (by simp; omega)
                go_roundg (64 - (i+1))
                case measure => omega
                case rel =>
                  refine ⟨i+1, a3, c3, by omega, by go_num, by go_num, ?_, hb3⟩
                  have e : wordp P i 4 = wnext P i (wl P i) := wordp_wv P HPu.out i h16
                  rw [e] at ho3
                  exact ho3
          · obtain ⟨g, rfl, hg1, hg2⟩ := ho.headAt (by rw [HWL.out]; omega)
            have c15 := ho.cell (i - 15) (by rw [HWL.out]; omega)
            have c2 := ho.cell (i - 2) (by rw [HWL.out]; omega)
            have c16 := ho.cell (i - 16) (by rw [HWL.out]; omega)
            have c7 := ho.cell (i - 7) (by rw [HWL.out]; omega)
            rw [wl_get P i _ (by omega)] at c15 c2 c16 c7
            have q15 : U32 (wv P (i-15)) := u32_wv P _
            have q2 : U32 (wv P (i-2)) := u32_wv P _
            have hnx := wv_high P i (by omega)
            have HNX := Lib.hid hnx; clear hnx
            generalize wv P (i-15) = x15 at *
            generalize wv P (i-2) = x2 at *
            generalize wv P (i-16) = x16 at *
            generalize wv P (i-7) = x7 at *
            have w16 : IntKind.i64.wrap ((i : Int) - 16) = (i : Int) - 16 := by rw [IntKind.wrap_i64]; omega
            have w7 : IntKind.i64.wrap ((i : Int) - 7) = (i : Int) - 7 := by rw [IntKind.wrap_i64]; omega

            have b16' : (i : Int) - 16 < (i : Int) := by omega
            have b7 : (7 : Int) ≤ (i : Int) := by omega
            have b16'' : (16 : Int) ≤ (i : Int) := by omega
            have b7' : (i : Int) - 7 < (i : Int) := by omega
            have t16 : ((i : Int) - 16).toNat = i - 16 := by omega
            have t7 : ((i : Int) - 7).toNat = i - 7 := by omega
            have q15' := q15.1; have q15'' := q15.2; have q2' := q2.1; have q2'' := q2.2
            go_wp2_with fail
            go_quiet ((go_at_call 20; first | exact quiet_add_left ((turn_rot _ _ _ (by assumption) (by decide))) | exact quiet_left ((turn_rot _ _ _ (by assumption) (by decide)))))
            go_wp2_with fail
            go_quiet ((go_at_call 20; first | exact quiet_add_left ((turn_rot _ _ _ (by assumption) (by decide))) | exact quiet_left ((turn_rot _ _ _ (by assumption) (by decide)))))
            go_wp2_with fail
            go_region_law (refine step_own_append1 rfl (.tmp 106) (.tmp 122) 40 rfl 29 .u32 4 und40 info29 (by decide) (Own.alloc (Own.drewN ho _) _) rfl (by rw [HWL.out]) wi.heap.size 1 _ rfl (new1 _ _ _ _) (by rw [HWL.out]; omega) (by simp; omega) ?_; intro a3 c3 w3 ho3 hg3)
            all_goals
              have hb3 : Below wo.heap.size wo w3 := below_own (Below.alloc (below_drewN hb _) hszi _) (Own.alloc (Own.drewN ho _) _) hg3 (Nat.le_refl _) (by simp; omega)
              go_wp2_with fail
              go_roundg (64 - (i+1))
              case measure => omega
              case rel =>
                refine ⟨i+1, a3, c3, by omega, by go_num, by go_num, ?_, hb3⟩
                have e : wnext P i (wl P i) = wv P i := rfl
                show Own _ _ _ _ _ _ (wl P i ++ [wnext P i (wl P i)])
                rw [e, HNX.out]
                refine Eq.mp (congrArg (fun z => Own w3 wo.heap.size 29 .u32 a3 c3 (wl P i ++ [z])) ?_) ho3
                simp only [sg0, sg1, xr, IntKind.wrap_u32]
                omega
        · obtain rfl : i = 64 := by omega
          have hR2 := HR.out.later hb
          have s0 := nums_cell hR2.h1 0 (by omega)
          have s1 := nums_cell hR2.h1 1 (by omega)
          have s2 := nums_cell hR2.h1 2 (by omega)
          have s3 := nums_cell hR2.h1 3 (by omega)
          have s4 := nums_cell hR2.h1 4 (by omega)
          have s5 := nums_cell hR2.h1 5 (by omega)
          have s6 := nums_cell hR2.h1 6 (by omega)
          have s7 := nums_cell hR2.h1 7 (by omega)
          obtain ⟨g, rfl, hg1, hg2⟩ := ho.headAt (by rw [HWL.out]; omega)
          have hget : ∀ i, i < 64 → (wl P 64).getD i 0 = wv P i := fun i h => wl_get P 64 i h
          have hwl := HWL.out
          clear HWL
          obtain ⟨WL, hWL⟩ : ∃ l, wl P 64 = l := ⟨_, rfl⟩
          rw [hWL] at ho hwl hget
          clear hWL
          have HWL := Lib.hid hwl; have HG := Lib.hid hget
          clear hwl hget
          have hHu := u32_Hb p b
          have hHn : Hb p (b + 1) = comp (Hb p b) P := by rw [← HP.out]; rfl
          have HHN := Lib.hid hHn; clear hHn
          obtain ⟨H, hH⟩ : ∃ H, Hb p b = H := ⟨_, rfl⟩
          rw [hH] at s0 s1 s2 s3 s4 s5 s6 s7 hHu hR2 HHN
          have HHU := Lib.hid hHu; clear hHu hH
          go_wp2_with fail
          go_quiet (fail)
          go_wp2_with fail
          go_quiet (fail)
          go_wp2_with fail
          go_loopg [13, 14, 15, 16, 17, 18, 19, 20, 21] 64 (fun g xa xb xc xd xe xf xg xh y wr => ∃ (i k : Nat), i + g = 64 ∧ y = .int .i64 i ∧ wr = wi.drewN k ∧ xa = .int .u32 (rnds H (wv P) i 0) ∧ xb = .int .u32 (rnds H (wv P) i 1) ∧ xc = .int .u32 (rnds H (wv P) i 2) ∧ xd = .int .u32 (rnds H (wv P) i 3) ∧ xe = .int .u32 (rnds H (wv P) i 4) ∧ xf = .int .u32 (rnds H (wv P) i 5) ∧ xg = .int .u32 (rnds H (wv P) i 6) ∧ xh = .int .u32 (rnds H (wv P) i 7))
          case atStart => exact ⟨0, _, rfl, rfl, World.drewN_drewN _ _ _, rfl, rfl, rfl, rfl, rfl, rfl, rfl, rfl⟩
          case round =>
            clear s0 s1 s2 s3 s4 s5 s6 s7
            obtain ⟨i, k, hi, rfl, rfl, rfl, rfl, rfl, rfl, rfl, rfl, rfl, rfl⟩ := hrel
            by_cases h64 : i < 64
            · have ck := nums_cell hR2.h2 i h64
              have cw := ho.cell i (by rw [HWL.out]; exact h64)
              rw [HG.out i h64] at cw
              have HO := Lib.hid ho; clear ho
              have hrn : rnds H (wv P) (i + 1) = rnd (kv i) (wv P i) (rnds H (wv P) i) := rfl
              have HRN := Lib.hid hrn; clear hrn
              have hSu := u32_rnds H (wv P) HHU.out i
              generalize hSt : rnds H (wv P) i = St at *
              have q0 := hSu 0
              have q4 := hSu 4
              have hw4 : IntKind.u32.wrap (4294967295 - St 4) = 4294967295 - St 4 := by have := q4.1; have := q4.2; rw [IntKind.wrap_u32]; omega
              have hnx4 := u32_not (St 4) q4
              have HNX := Lib.hid hnx4; clear hnx4 hSt
              have HSU := Lib.hid hSu; clear hSu
              go_wp2_with fail
              go_quiet ((go_at_call 20; first | exact quiet_add_left ((turn_rot _ _ _ (by assumption) (by decide))) | exact quiet_left ((turn_rot _ _ _ (by assumption) (by decide)))))
              go_wp2_with (go_at_call 20; refine (turn_rot _ _ _ (by assumption) (by decide)).mono ?_; rintro e w' ⟨rfl, rfl⟩)
              go_roundg (64 - (i+1))
              case measure => omega
              case rel =>
                refine ⟨i+1, _, by omega, by go_num, by first | rfl | exact World.drewN_drewN _ _ _, ?_, ?_, ?_, ?_, ?_, ?_, ?_, ?_⟩
                all_goals rw [HRN.out]
                · simp only [rnd, st8, pl, one, two]
                  rw [HNX.out]
                  simp only [xr, nd]
                  first | done | (congr 1; done) | (congr 1; omega)
                · rfl
                · rfl
                · rfl
                · simp only [rnd, st8, pl, one]
                  rw [HNX.out]
                  simp only [xr, nd]
                  first | done | (congr 1; done) | (congr 1; omega)
                · rfl
                · rfl
                · rfl
            · obtain rfl : i = 64 := by omega
              obtain ⟨R, hR⟩ : ∃ R, rnds H (wv P) 64 = R := ⟨_, rfl⟩
              rw [hR]
              have hRu : ∀ j, U32 (R j) := by rw [← hR]; exact u32_rnds H (wv P) HHU.out 64
              have hcm : ∀ j, comp H P j = (H j + R j) % 4294967296 := fun j => by rw [← hR]; rfl
              have HCM := Lib.hid hcm; clear hcm hR
              have HRU := Lib.hid hRu; clear hRu
              have HO := Lib.hid ho; clear ho
              obtain ⟨W, hW⟩ : ∃ W : World, W = wi.drewN k := ⟨_, rfl⟩
              have hR3 : RS w W H := by rw [hW]; exact hR2.drewN k
              rw [← hW]
              have hWs := hR3.sz
              clear hW hR2 hg1 hg2
              go_wp2_with fail
              go_loopg [25] 8 (fun g y wr => ∃ i : Nat, i + g = 8 ∧ y = .int .i64 i ∧ RS w wr (fun j => if j < i then comp H P j else H j) ∧ wr.heap[W.heap.size]? = some (.cells (nums .u32 R 8) 29 (0,0)))
              case atStart =>
                refine ⟨0, rfl, rfl, (hR3.later ((Below.refl _ _).alloc (Nat.le_refl _) _)).congr fun j _ => by simp, ?_⟩
                rw [heap_new]; rfl
              case round =>
                obtain ⟨i, hi, rfl, hS, hM⟩ := hrel
                by_cases h8 : i < 8
                · have cs := nums_cell hS.h1 i h8
                  rw [if_neg (by omega)] at cs
                  have cm := nums_cell hM i h8
                  have fs := frozen_of_row _ _ i _ _ hS.h1
                  have hM2 : ∀ v, (wr.drew.setCell ⟨w.heap.size+1, i, none⟩ v).heap[W.heap.size]? = some (.cells (nums .u32 R 8) 29 (0,0)) := fun v => by
                    rw [heap_setCell_other _ _ _ _ (by simp <;> omega)]; exact hM
                  have hS2 := fun v => (hS.drew).store i v
                  have HM2 := Lib.hid hM2; have HS2 := Lib.hid hS2
                  clear hM2 hS2 hS hM hR3
                  go_wp2_with fail
                  go_region
                  go_wp2_with fail
                  go_roundg (8 - (i+1))
                  case measure => omega
                  case rel =>
                    refine ⟨i+1, by omega, by go_num, (HS2.out _).congr fun j hj => ?_, HM2.out _⟩
                    by_cases e : j = i
                    · subst e
                      rw [if_pos rfl, if_pos (by omega), HCM.out]
                    · rw [if_neg e]
                      by_cases l : j < i
                      · rw [if_pos l, if_pos (by omega)]
                      · rw [if_neg l, if_neg (by omega)]
                · obtain rfl : i = 8 := by omega
                  have hS3 : RS w wr (Hb p (b + 1)) := by rw [HHN.out]; exact hS.congr fun j hj => if_pos hj
                  clear hS
                  go_wp2_with fail
                  go_roundg (n - (b + 1))
                  case measure => omega
                  case rel => exact ⟨b+1, by omega, by go_num, hS3⟩
    · obtain rfl : b = n := by omega
      have hRb := HR.out
      rw [HFIN.out] at hRb
      have hHu : ∀ j, U32 (shaH (bl s) j) := by rw [← HFIN.out]; exact u32_Hb p b
      have HHU := Lib.hid hHu; clear hHu
      obtain ⟨H, hH⟩ : ∃ H, shaH (bl s) = H := ⟨_, rfl⟩
      rw [hH] at hRb HHU
      have hk0 : KS w (wo.alloc (.cells (nums .u8 (fun _ => 0) 32) 25)) H wo.heap.size (fun _ => 0) := ⟨hRb.later ((Below.refl _ _).alloc (Nat.le_refl _) _), heap_new _ _, hwo⟩
      have hfk : shaKey (bl s) = keyOf H := by unfold shaKey; rw [hH]
      have HFK := Lib.hid hfk; clear hfk hH
      clear hRb HR
      go_wp2_with fail
      go_loopg [27] 8 (fun g y wr => ∃ i : Nat, i + g = 8 ∧ y = .int .i64 i ∧ KS w wr H wo.heap.size (fun j => if j < 4 * i then keyOf H j else 0))
      case atStart => exact ⟨0, rfl, rfl, hk0.congr fun j _ => by simp⟩
      case round =>
        clear hk0
        obtain ⟨i, hi, rfl, hK⟩ := hrel
        by_cases h8 : i < 8
        · have cs := nums_cell hK.rs.h1 i h8
          have hu := HHU.out i
          obtain ⟨x, hx⟩ : ∃ x, H i = x := ⟨_, rfl⟩
          rw [hx] at cs hu
          have HX := Lib.hid hx; clear hx
          have hu1 := hu.1; have hu2 := hu.2
          have h8i : (i : Int) < 8 := by omega
          go_wp2_with fail
          go_loopg [28, 29] 4 (fun g v y wr => ∃ m : Nat, m + g = 4 ∧ y = .int .i64 (3 - (m : Int)) ∧ v = .int .u32 (x / ((256 ^ m : Nat) : Int)) ∧ KS w wr H wo.heap.size (kpart H i m))
          case atStart =>
            refine ⟨0, rfl, rfl, by simp, hK.congr fun j _ => ?_⟩
            unfold kpart
            by_cases e : j < 4 * i
            · rw [if_pos e, if_pos (Or.inl e)]
            · rw [if_neg e, if_neg (by omega)]
          case round =>
            clear hK cs
            obtain ⟨m, hm, rfl, rfl, hK⟩ := hrel
            have hq : 0 ≤ x / ((256 ^ m : Nat) : Int) := Int.ediv_nonneg hu1 (Int.natCast_nonneg _)
            have hq2 : x / ((256 ^ m : Nat) : Int) ≤ x := Int.ediv_le_self _ hu1
            have hnext := div256 x hu1 m
            have HNX := Lib.hid hnext; clear hnext
            by_cases h4 : m < 4
            · have hkv : keyOf H (4 * i + (3 - m)) = x / ((256 ^ m : Nat) : Int) % 256 := by
                rw [keyOf_at H i (3 - m) (by omega), HX.out]
                congr 2
                rw [show (256 : Nat) = 2 ^ 8 by rfl, ← Nat.pow_mul, show 24 - 8 * (3 - m) = 8 * m by omega]
                simp
              have HKV := Lib.hid hkv; clear hkv
              obtain ⟨q, hqq⟩ : ∃ q, x / ((256 ^ m : Nat) : Int) = q := ⟨_, rfl⟩
              rw [hqq] at hq hq2 HNX HKV ⊢
              clear hqq
              have hge : ¬ ((3 : Int) - (m : Int) < 0) := by omega
              have hge2 : (0 : Int) ≤ 3 - (m : Int) := by omega
              have ck := nums_cell hK.hk (4 * i + (3 - m)) (by omega)
              have fk := frozen_of_row _ _ (4 * i + (3 - m)) _ _ hK.hk
              have ht : (4 * (i : Int) + (3 - (m : Int))).toNat = 4 * i + (3 - m) := by omega
              have ht0 : (0 : Int) ≤ 4 * (i : Int) + (3 - (m : Int)) := by omega
              have ht1 : 4 * (i : Int) + (3 - (m : Int)) < 32 := by omega
              have hst := hK.store (4 * i + (3 - m)) (q % 256)
              have HST := Lib.hid hst; clear hst hK
              go_wp2_with fail
              go_roundg (4 - (m+1))
              case measure => omega
              case rel =>
                refine ⟨m+1, by omega, by go_num, by rw [← HNX.out], HST.out.congr fun j hj => ?_⟩
                unfold kpart
                by_cases e : j = 4 * i + (3 - m)
                · subst e
                  rw [if_pos rfl, if_pos (by omega), HKV.out]
                · rw [if_neg e]
                  by_cases l : j < 4 * i ∨ (4 * i + (4 - m) ≤ j ∧ j < 4 * i + 4)
                  · rw [if_pos l, if_pos (by omega)]
                  · rw [if_neg l, if_neg (by omega)]
            · obtain rfl : m = 4 := by omega
              have hK2 : KS w wr H wo.heap.size (fun j => if j < 4 * (i + 1) then keyOf H j else 0) := hK.congr fun j _ => by
                unfold kpart
                by_cases e : j < 4 * (i + 1)
                · rw [if_pos e, if_pos (by omega)]
                · rw [if_neg e, if_neg (by omega)]
              clear hK
              go_wp2_with fail
              go_roundg (8 - (i+1))
              case measure => omega
              case rel => exact ⟨i+1, by omega, by go_num, hK2⟩
        · obtain rfl : i = 8 := by omega
          have hk2 := hK.hk
          have hr0 := hK.rs.h0
          have hbl2 := hK.rs.below
          clear hK
          go_wp2_with (first
            | ((with_reducible refine at_op (.load 25 (.tmp 26)) rfl ?_); go_must (refine load_nums rfl 25 (.tmp 26) rfl wo.heap.size rfl hk2 und25 inf25 ?_))
            | ((with_reducible refine at_op (.store 25 (.tmp 2) (.tmp 260)) rfl ?_); go_must (refine store_nums rfl 25 (.tmp 2) (.tmp 260) rfl w.heap.size rfl rfl hr0 inf25 ?_)))
          refine bodyPost_ret (results_cell_row (P := Tryd.prog) (p := 2) (ty := 25) rfl _ _ w.heap.size 25 _ (0, 0) _ rfl (setRow_heap _ _ _ _ _ _ hr0) und25 rfl (by rw [nums_size]; exact inf25)) rfl ?_
          refine ⟨?_, below_setRow' hbl2 _ (by omega) _⟩
          rw [HFK.out, nums_congr .u8 _ (keyOf H) 32 (fun j hj => if_pos (by omega))]
end Go.Proofs.YtoijdiokomineaaDoor
