/-
  The walks of siloref03.digit, siloref03.Parse, siloref03.Hex.
-/
import Derived.Test.YtoijdiokomineaaDoorParse
namespace Go.Proofs.YtoijdiokomineaaDoor
open Go.RowKit
set_option linter.unusedVariables false

theorem dv_hexd (x : Int) (h0 : 0 ≤ x) (h1 : x < 16) : dv (hexd x) = x := by
  unfold dv hexd
  by_cases h : x < 10
  · rw [if_pos h, if_pos (by omega)]; omega
  · rw [if_neg h, if_neg (by omega), if_pos (by omega)]; omega
theorem hexd_dv (c : Int) (h : dv c ≠ 16) : hexd (dv c) = c := by
  unfold dv at *
  by_cases h1 : 48 ≤ c ∧ c ≤ 57
  · rw [if_pos h1] at *
    unfold hexd; rw [if_pos (by omega)]; omega
  · rw [if_neg h1] at *
    by_cases h2 : 97 ≤ c ∧ c ≤ 102
    · rw [if_pos h2] at *
      unfold hexd; rw [if_neg (by omega)]; omega
    · rw [if_neg h2] at h; exact absurd rfl h
theorem run_digit64 (x : Nat) (h1 : x < 16) (w : World) :
    (Instr.index 9 (.string { data := #[48, 49, 50, 51, 52, 53, 54, 55, 56, 57, 97, 98, 99, 100, 101, 102] }) (.int .i64 (x : Int))).run Tryd.prog w = .ok (.int .u8 (hexd (x : Int))) w := by
  have : x = 0 ∨ x = 1 ∨ x = 2 ∨ x = 3 ∨ x = 4 ∨ x = 5 ∨ x = 6 ∨ x = 7 ∨ x = 8 ∨ x = 9 ∨ x = 10 ∨ x = 11 ∨ x = 12 ∨ x = 13 ∨ x = 14 ∨ x = 15 := by omega
  rcases this with rfl | rfl | rfl | rfl | rfl | rfl | rfl | rfl | rfl | rfl | rfl | rfl | rfl | rfl | rfl | rfl
  all_goals rfl

set_option maxRecDepth 100000 in
theorem digit_any (c : Int) (w : World) :
    Calls Tryd.prog 23 #[.int .u8 c] w fun e w' => e = .returned (.int .u8 (dv c)) ∧ w = w' := by
  go_enter Tryd.func23, Tryd.ntmps23
  go_wp2_with fail
  go_loopg [3] 16 (fun g v wr => ∃ i : Nat, i + g = 16 ∧ v = .int .i64 i ∧ (dv c = 16 ∨ (i : Int) ≤ dv c) ∧ wr = w)
  case atStart => exact ⟨0, rfl, rfl, Or.inr (dv_u c).1, rfl⟩
  case round =>
    obtain ⟨i, hi, rfl, hd, rfl⟩ := hrel
    by_cases h16 : i < 16
    · have hix := run_digit64 i h16
      by_cases e : hexd (i : Int) = c
      · have he : (hexd (i : Int) == c) = true := by rw [beq_iff_eq]; exact e
        have hdd : dv c = (i : Int) := by rw [← e]; exact dv_hexd _ (by omega) (by omega)
        have HDD := Lib.hid hdd; clear hdd e
        go_wp2_with fail
        go_ret
        exact ⟨by rw [HDD.out]; rfl, rfl⟩
      · have he : (hexd (i : Int) == c) = false := by rw [beq_eq_false_iff_ne]; exact e
        have hne : dv c = 16 ∨ ((i + 1 : Nat) : Int) ≤ dv c := by
          rcases hd with h | h
          · exact Or.inl h
          · by_cases e16 : dv c = 16
            · exact Or.inl e16
            · right
              have : dv c ≠ (i : Int) := fun h2 => e (by rw [← h2]; exact hexd_dv c e16)
              omega
        have HNE := Lib.hid hne; clear hne e hd
        go_wp2_with fail
        go_roundg (16 - (i+1))
        case measure => omega
        case rel => exact ⟨i+1, by omega, by go_num, HNE.out, rfl⟩
    · have h16' : dv c = 16 := by have := dv_u c; omega
      have H := Lib.hid h16'; clear h16' hd
      obtain rfl : i = 16 := by omega
      go_wp2_with fail
      go_ret
      exact ⟨by rw [H.out]; rfl, rfl⟩

set_option maxRecDepth 100000 in
set_option maxHeartbeats 1000000 in
theorem rparse_any (s : ByteArray) (w : World) :
    Calls Tryd.prog 15 #[.string s] w fun e w' => e = .returned (.tuple #[.agg (nums .u8 (pkS s) 32), .bool (okS s)]) ∧ Below w.heap.size w w' := by
  have r0 : ∀ a b : Obj, ((w.alloc a).alloc b).heap[w.heap.size]? = some a := fun a b => by rw [heap_old _ _ _ (by simp), heap_new]
  have r1 : ∀ a b : Obj, ((w.alloc a).alloc b).heap[w.heap.size+1]? = some b := fun a b => heap_new' _ _ _ (by simp)
  have R0 := Lib.hid r0; have R1 := Lib.hid r1; clear r0 r1
  by_cases h64 : s.size = 64
  · have hn : ((s.size : Int) != 64) = false := by rw [bne_eq_false_iff_eq]; omega
    go_enter Tryd.func15, Tryd.ntmps15
    go_wp2_with fail
    go_loopg [5] 64 (fun g v wr => ∃ i : Nat, i + g = 64 ∧ v = .int .i64 i ∧ ParW w wr s i)
    case atStart =>
      refine ⟨0, rfl, rfl, (R0.out _ _).trans (congrArg (fun z => some (Obj.cells z 25 (0,0))) Z32), ?_, rfl, ((Below.refl _ _).alloc (Nat.le_refl _) _).alloc (by simp) _⟩
      rw [R1.out, nums_congr _ (pcell s 0) (fun _ => 0) 32 (fun j _ => by unfold pcell; rw [if_neg (by omega), if_neg (by omega)])]; rfl
    case round =>
      obtain ⟨i, hi, rfl, hP⟩ := hrel
      have hlen := hP.below.size
      by_cases hl : i < 64
      · have hls : i < s.size := by omega
        have hget := ch_get s i hls
        have htd : Int.tdiv (i : Int) 2 = ((i / 2 : Nat) : Int) := by rw [Int.tdiv_eq_ediv_of_nonneg (by omega)]; omega
        have hdu := dv_u (ch s i)
        by_cases hd : dv (ch s i) = 16
        · have he : (dv (ch s i) == 16) = true := by rw [beq_iff_eq]; exact hd
          have BAD := Lib.hid (okS_bad s i hl hd)
          obtain ⟨C, hC⟩ : ∃ C, ch s i = C := ⟨_, rfl⟩
          rw [hC] at hget he hdu
          have hr2 := hP.hr
          have hb2 := hP.below
          clear hd hC hP
          go_wp2_with (first
            | (go_at_call 23; refine (digit_any _ _).mono ?_; rintro e w2 ⟨rfl, rfl⟩)
            | ((with_reducible refine at_op (.store 25 (.tmp 2) (.tmp 21)) rfl ?_); go_must (refine store_nums rfl 25 (.tmp 2) (.tmp 21) rfl w.heap.size rfl (by exact congrArg Value.agg Z32) hr2 inf25 ?_)))
          refine bodyPost_ret (results_cell_row_tmp (P := Tryd.prog) (p := 2) (u := 3) (ty := 25) rfl _ _ w.heap.size 25 _ (0, 0) _ rfl (setRow_heap _ _ _ _ _ _ hr2) und25 rfl (by rw [nums_size]; exact inf25)) rfl ?_
          refine ⟨?_, below_setRow' hb2 _ (by omega) _⟩
          rw [pks_bad s BAD.out, BAD.out]; rfl
        · have he : (dv (ch s i) == 16) = false := by rw [beq_eq_false_iff_ne]; exact hd
          have hhalf := pcell_half s i hP.dg
          have ck := nums_cell hP.hk (i / 2) (by omega)
          have fk := frozen_of_row _ _ (i / 2) _ _ hP.hk
          have hst := hP.store hd (16 * pcell s i (i / 2) + dv (ch s i)) (by omega)
          have HST := Lib.hid hst
          obtain ⟨C, hC⟩ : ∃ C, ch s i = C := ⟨_, rfl⟩
          rw [hC] at hget he hdu hd HST
          clear hst hC hP
          go_wp2_with (first
            | (go_at_call 23; refine (digit_any _ _).mono ?_; rintro e w2 ⟨rfl, rfl⟩))
          go_roundg (64 - (i+1))
          case measure => omega
          case rel => exact ⟨i+1, by omega, by go_num, HST.out⟩
      · obtain rfl : i = 64 := by omega
        have ok : okS s = true := by unfold okS; rw [hP.dg, h64]; rfl
        have OK := Lib.hid ok; clear ok
        have hk2 := hP.hk
        have hr2 := hP.hr
        go_wp2_with (first
          | ((with_reducible refine at_op (.load 25 (.tmp 4)) rfl ?_); go_must (refine load_nums rfl 25 (.tmp 4) rfl (w.heap.size+1) rfl hk2 und25 inf25 ?_))
          | ((with_reducible refine at_op (.store 25 (.tmp 2) (.tmp 32)) rfl ?_); go_must (refine store_nums rfl 25 (.tmp 2) (.tmp 32) rfl w.heap.size rfl rfl hr2 inf25 ?_)))
        refine bodyPost_ret (results_cell_row_tmp (P := Tryd.prog) (p := 2) (u := 3) (ty := 25) rfl _ _ w.heap.size 25 _ (0, 0) _ rfl (setRow_heap _ _ _ _ _ _ hr2) und25 rfl (by rw [nums_size]; exact inf25)) rfl ?_
        refine ⟨?_, below_setRow' hP.below _ (by omega) _⟩
        rw [pks_good s OK.out, OK.out]; rfl
  · have hn : ((s.size : Int) != 64) = true := by rw [bne_iff_ne]; omega
    have bad : okS s = false := by unfold okS; rw [Bool.and_eq_false_iff]; left; rw [beq_eq_false_iff_ne]; exact h64
    have BAD := Lib.hid bad; clear bad
    go_enter Tryd.func15, Tryd.ntmps15
    go_wp2_with (first
      | ((with_reducible refine at_op (.load 25 (.tmp 4)) rfl ?_); go_must (refine load_nums rfl 25 (.tmp 4) rfl (w.heap.size+1) rfl ((R1.out _ _).trans (congrArg (fun z => some (Obj.cells z 25 (0,0))) Z32)) und25 inf25 ?_))
      | ((with_reducible refine at_op (.store 25 (.tmp 2) (.tmp 10)) rfl ?_); go_must (refine store_nums rfl 25 (.tmp 2) (.tmp 10) rfl w.heap.size rfl rfl ((R0.out _ _).trans (congrArg (fun z => some (Obj.cells z 25 (0,0))) Z32)) inf25 ?_)))
    refine bodyPost_ret (results_cell_row_tmp (P := Tryd.prog) (p := 2) (u := 3) (ty := 25) rfl _ _ w.heap.size 25 _ (0, 0) _ rfl (setRow_heap _ _ _ _ _ _ ((R0.out _ _).trans (congrArg (fun z => some (Obj.cells z 25 (0,0))) Z32))) und25 rfl (by rw [nums_size]; exact inf25)) rfl ?_
    refine ⟨?_, below_setRow' (((Below.refl _ _).alloc (Nat.le_refl _) _).alloc (by simp) _) _ (by omega) _⟩
    rw [pks_bad s BAD.out, BAD.out]; rfl

theorem strOfNums_append (a b : List Int) : strOfNums a ++ strOfNums b = strOfNums (a ++ b) := by
  apply ByteArray.ext
  simp [strOfNums]
theorem digs_cut (x : Int) (h0 : 0 ≤ x) (h1 : x < 16) (w : World) :
    (Instr.slice 9 (.string { data := #[48, 49, 50, 51, 52, 53, 54, 55, 56, 57, 97, 98, 99, 100, 101, 102] }) (some (.int .u8 x)) (some (.int .u8 (x + 1))) none).run Tryd.prog w = .ok (.string (strOfNums [hexd x])) w := by
  rw [run_slice_string w 9 _ .u8 .u8 x (x + 1) und9 h0 (by omega) (by show x + 1 ≤ ((16 : Nat) : Int); omega)]
  obtain ⟨n, rfl⟩ := Int.eq_ofNat_of_zero_le h0
  have : n = 0 ∨ n = 1 ∨ n = 2 ∨ n = 3 ∨ n = 4 ∨ n = 5 ∨ n = 6 ∨ n = 7 ∨ n = 8 ∨ n = 9 ∨ n = 10 ∨ n = 11 ∨ n = 12 ∨ n = 13 ∨ n = 14 ∨ n = 15 := by omega
  congr 2
  rcases this with rfl | rfl | rfl | rfl | rfl | rfl | rfl | rfl | rfl | rfl | rfl | rfl | rfl | rfl | rfl | rfl
  all_goals rfl

set_option maxRecDepth 100000 in
theorem rhex_any (K : Nat → Int) (hK : ∀ j, U8 (K j)) (w : World) :
    Calls Tryd.prog 17 #[.agg (nums .u8 K 32)] w fun e w' => e = .returned (.string (strOfNums ((List.range 64).map (hexv K)))) ∧ Below w.heap.size w w' := by
  have HK := Lib.hid hK; clear hK
  go_enter Tryd.func17, Tryd.ntmps17
  go_wp2_with fail
  obtain ⟨W, hW⟩ : ∃ W : World, W = w.alloc (.cells (nums .u8 K 32) 25) := ⟨_, rfl⟩
  rw [← hW]
  have hh : W.heap[w.heap.size]? = some (.cells (nums .u8 K 32) 25 (0,0)) := by rw [hW, heap_new]
  have hb : Below w.heap.size w W := by rw [hW]; exact (Below.refl _ _).alloc (Nat.le_refl _) _
  clear hW
  go_loopg [3, 4] 32 (fun g v z wr => ∃ i n : Nat, i + g = 32 ∧ z = .int .i64 i ∧ v = .string (strOfNums ((List.range (2 * i)).map (hexv K))) ∧ wr = W.drewN n)
  case atStart => exact ⟨0, 0, rfl, rfl, rfl, rfl⟩
  case round =>
    obtain ⟨i, n, hi, rfl, rfl, rfl⟩ := hrel
    by_cases h32 : i < 32
    · have c0 := nums_cell hh i h32
      have hu := HK.out i
      unfold U8 at hu
      have d1 := digs_cut (K i / 16) (by omega) (by omega)
      have d2 := digs_cut (K i % 16) (by omega) (by omega)
      have q0 : (K i).tdiv 16 = K i / 16 := Int.tdiv_eq_ediv_of_nonneg hu.1
      have r0 : (K i).tmod 16 = K i % 16 := Int.tmod_eq_emod_of_nonneg hu.1
      have q1 : IntKind.u8.wrap (K i / 16) = K i / 16 := by rw [IntKind.wrap_u8]; omega
      have q2 : IntKind.u8.wrap (K i / 16 + 1) = K i / 16 + 1 := by rw [IntKind.wrap_u8]; omega
      have r1 : IntKind.u8.wrap (K i % 16) = K i % 16 := by rw [IntKind.wrap_u8]; omega
      have r2 : IntKind.u8.wrap (K i % 16 + 1) = K i % 16 + 1 := by rw [IntKind.wrap_u8]; omega
      have z0 : (strOfNums ((List.range (2 * i)).map (hexv K))).size = 2 * i := by rw [strOfNums_size]; simp
      have z1 : ∀ x : Int, (strOfNums [x]).size = 1 := fun x => by rw [strOfNums_size]; rfl
      have e : strOfNums ((List.range (2 * i)).map (hexv K)) ++ strOfNums [hexd (K i / 16)] ++ strOfNums [hexd (K i % 16)] = strOfNums ((List.range (2 * (i + 1))).map (hexv K)) := by
        rw [strOfNums_append, strOfNums_append]
        congr 1
        rw [show 2 * (i + 1) = 2 * i + 1 + 1 by omega, List.range_succ, List.range_succ]
        simp only [List.map_append, List.map_cons, List.map_nil]
        have e1 : hexv K (2 * i) = hexd (K i / 16) := by unfold hexv; rw [if_pos (by omega), show 2 * i / 2 = i by omega]
        have e2 : hexv K (2 * i + 1) = hexd (K i % 16) := by unfold hexv; rw [if_neg (by omega), show (2 * i + 1) / 2 = i by omega]
        rw [e1, e2]
      have E := Lib.hid e; clear e
      go_wp2_with fail
      go_quiet (fail)
      go_wp2_with fail
      go_roundg (32 - (i+1))
      case measure => omega
      case rel => exact ⟨i+1, n + nq, by omega, by go_num, by rw [← E.out], rfl⟩
    · obtain rfl : i = 32 := by omega
      go_wp2_with fail
      go_ret
      exact ⟨rfl, below_drewN hb _⟩
end Go.Proofs.YtoijdiokomineaaDoor
