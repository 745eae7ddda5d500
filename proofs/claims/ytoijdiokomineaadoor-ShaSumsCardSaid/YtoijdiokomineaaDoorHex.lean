/-
  The walk of sha.Hex: a key's 64 digits.
-/
import Derived.Test.YtoijdiokomineaaDoorSum
import Derived.Deep.RegionLaw
import Derived.ArgAppend
import Derived.Laws.BytesArg
namespace Go.Proofs.YtoijdiokomineaaDoor
open Go.RowKit
set_option linter.unusedVariables false

theorem und5 : Tryd.prog.underlying 5 = some (.int .u8) := by kernel_rfl
theorem inf5 : (Tryd.prog.info? 5).map (·.size) = some 1 := by kernel_rfl

theorem und50 : Tryd.prog.underlying 50 = some (.slice 5) := by kernel_rfl
theorem info5 : (Tryd.prog.info? 5).map (fun i => (i.zero, i.size, i.bytes)) = some (some (.int .u8 0), 1, 1) := by kernel_rfl
theorem app_news (w : World) (x y : Int) : ∀ j u, ([.int .u8 x, .int .u8 y] : List Value)[j]? = some u → (w.drew.alloc (.cells #[.int .u8 x, .int .u8 y] 5)).cell? ((⟨w.heap.size, 0, none⟩ : Addr).add j) = some u := by
  intro j u hj
  have e : (⟨w.heap.size, 0, none⟩ : Addr).add j = ⟨w.heap.size, j, none⟩ := by rw [Addr.add_lit]; simp
  rw [e]
  have h := World.cell?_alloc_new w.drew #[.int .u8 x, .int .u8 y] 5 j
  have hz : w.drew.heap.size = w.heap.size := rfl
  rw [hz] at h
  rw [h, ← hj]
  simp
theorem app_spare {w : World} {b t n : Nat} {f : Nat → Int} (h : w.heap[b]? = some (.cells (nums .u8 f n) t (0, 0))) (k m : Nat) (hk : k + m ≤ n) (o : Obj) :
    ∀ j, j < m → ((w.drew.alloc o).cell? ⟨b, 0 + k * 1 + j, none⟩).isSome = true ∧ (w.drew.alloc o).frozen? ⟨b, 0 + k * 1 + j, none⟩ = false := by
  intro j hj
  have hb : b < w.heap.size := (Array.getElem?_eq_some_iff.1 h).1
  have h' : (w.drew.alloc o).heap[b]? = some (.cells (nums .u8 f n) t (0, 0)) := (heap_old w.drew o b hb).trans h
  exact ⟨by rw [nums_cell h' _ (by omega)]; rfl, frozen_of_row _ _ _ _ _ h'⟩

/-- A digit. -/
def hexd (x : Int) : Int := if x < 10 then 48 + x else 87 + x
def hexv (K : Nat → Int) (j : Nat) : Int := if j % 2 = 0 then hexd (K (j / 2) / 16) else hexd (K (j / 2) % 16)

def digs : ByteArray := ⟨#[48, 49, 50, 51, 52, 53, 54, 55, 56, 57, 97, 98, 99, 100, 101, 102]⟩
theorem run_digit (x : Int) (h0 : 0 ≤ x) (h1 : x < 16) (w : World) :
    (Instr.index 9 (.string { data := #[48, 49, 50, 51, 52, 53, 54, 55, 56, 57, 97, 98, 99, 100, 101, 102] }) (.int .u8 x)).run Tryd.prog w = .ok (.int .u8 (hexd x)) w := by
  obtain ⟨n, rfl⟩ := Int.eq_ofNat_of_zero_le h0
  have : n = 0 ∨ n = 1 ∨ n = 2 ∨ n = 3 ∨ n = 4 ∨ n = 5 ∨ n = 6 ∨ n = 7 ∨ n = 8 ∨ n = 9 ∨ n = 10 ∨ n = 11 ∨ n = 12 ∨ n = 13 ∨ n = 14 ∨ n = 15 := by omega
  rcases this with rfl | rfl | rfl | rfl | rfl | rfl | rfl | rfl | rfl | rfl | rfl | rfl | rfl | rfl | rfl | rfl
  all_goals rfl

theorem run_make64 (w : World) : (Instr.makeSlice 50 (.int .i64 0) (.int .i64 64)).run Tryd.prog w = .ok (.slice (some ⟨w.heap.size, 0, none⟩) 0 64) (w.alloc (.cells (nums .u8 (fun _ => 0) 64) 5)) := by kernel_rfl

theorem wpList_append_room {P : Program} {ops : Array Oper} {rest : List Oper} {o : Oper} {a : Act} {w : World} {Q : Exit → Act → World → Prop}
    (hg : o.guard = none) (s x : Operand) (t : TypeId) (hop : o.op = Op.call { callee := Callee.builtin Builtin.append, args := #[s, x], argTypes := #[t, t] })
    (e : TypeId) (i : TypeInfo) (size : Nat) (h1 : P.underlying t = some (.slice e)) (h2 : P.info? e = some i) (h4 : i.size = size)
    (b off n cap : Nat) (hs : a.eval s = .slice (some ⟨b, off, none⟩) n cap)
    (ad : Addr) (m c : Nat) (news : List Value) (hx : a.eval x = .slice (some ad) m c) (hn : news.length = m * size) (hc : ∀ j u, news[j]? = some u → w.cell? (ad.add j) = some u) (h1c : ∀ u ∈ news, u.oneCell' = true)
    (hroom : n + m ≤ cap) (hspare : ∀ j, j < news.length → (w.cell? ⟨b, off + n * size + j, none⟩).isSome = true ∧ w.frozen? ⟨b, off + n * size + j, none⟩ = false)
    (h : wpList P ops Q rest (a.put o.dst (.slice (some ⟨b, off, none⟩) (n + m) cap)) (w.setCells b (off + n * size) news)) : wpList P ops Q (o :: rest) a w := by
  refine wpList_plain hg fun K hK => ?_
  subst h4
  have hrun := run_append_room_cells (P := P) w t o.type e i h1 h2 b off n cap ad m c news hn hc h1c hroom (fun j hj => (hspare j hj).1) (fun j hj => (hspare j hj).2)
  unfold Oper.wp
  simp [execOp, hop, resolve, invoke, builtin, hs, hx, hrun, Result.andThen]
  exact hK _ _ h

theorem und9 : Tryd.prog.underlying 9 = some .string := by kernel_rfl
theorem hex_round {w wr : World} {K : Nat → Int} {m : Nat} (hR : wr.heap[w.heap.size+1]? = some (.cells (nums .u8 (fun j => if j < m then hexv K j else 0) 64) 5 (0, 0))) (hB : Below w.heap.size w wr)
    (i : Nat) (h32 : i < 32) (hm : m = 2 * i) (x y : Int) (hx : hexv K (2 * i) = x) (hy : hexv K (2 * i + 1) = y) :
    ((wr.alloc (.cells #[.int .u8 x, .int .u8 y] 5)).drew.setCells (w.heap.size+1) (2 * i) [.int .u8 x, .int .u8 y]).heap[w.heap.size+1]? = some (.cells (nums .u8 (fun j => if j < 2 * (i+1) then hexv K j else 0) 64) 5 (0, 0)) ∧
      Below w.heap.size w ((wr.alloc (.cells #[.int .u8 x, .int .u8 y] 5)).drew.setCells (w.heap.size+1) (2 * i) [.int .u8 x, .int .u8 y]) := by
  have hb : w.heap.size + 1 < wr.heap.size := (Array.getElem?_eq_some_iff.1 hR).1
  have h1 : (wr.alloc (.cells #[.int .u8 x, .int .u8 y] 5)).drew.heap[w.heap.size+1]? = some (.cells (nums .u8 (fun j => if j < m then hexv K j else 0) 64) 5 (0, 0)) := (heap_old wr _ _ hb).trans hR
  refine ⟨?_, ((((hB.alloc (by omega) _).drew).setCell (by simp) _).setCell (by simp) _)⟩
  show (((wr.alloc (.cells #[.int .u8 x, .int .u8 y] 5)).drew.setCell _ _).setCell _ _).heap[w.heap.size+1]? = _
  rw [nums_store (nums_store h1 (2 * i) x) (2 * i + 1) y]
  rw [nums_congr .u8 _ (fun j => if j < 2 * (i+1) then hexv K j else 0) 64 (fun j hj => ?_)]
  by_cases e1 : j = 2 * i + 1
  · subst e1; rw [if_pos rfl, if_pos (by omega), hy]
  · by_cases e0 : j = 2 * i
    · subst e0; rw [if_neg e1, if_pos rfl, if_pos (by omega), hx]
    · rw [if_neg e1, if_neg e0]
      by_cases l : j < m
      · rw [if_pos l, if_pos (by omega)]
      · rw [if_neg l, if_neg (by omega)]

set_option maxRecDepth 100000 in
theorem hex_any (K : Nat → Int) (hK : ∀ j, U8 (K j)) (w : World) :
    Calls Tryd.prog 16 #[.agg (nums .u8 K 32)] w fun e w' => e = .returned (.string (strOfNums ((List.range 64).map (hexv K)))) ∧ Below w.heap.size w w' := by
  have HK := Lib.hid hK; clear hK
  have hmk := run_make64
  go_enter Tryd.func16, Tryd.ntmps16
  go_wp2_with ((with_reducible refine at_op (.load 25 (.tmp 1)) rfl ?_); go_must (refine load_nums rfl 25 (.tmp 1) rfl w.heap.size rfl ((heap_old _ _ _ (by simp)).trans (heap_new w _)) und25 inf25 ?_))
  go_loopg [3, 8] 32 (fun g v z wr => ∃ i : Nat, i + g = 32 ∧ z = .int .i64 i ∧ v = .slice (some ⟨w.heap.size+1, 0, none⟩) (2 * i) 64 ∧
    wr.heap[w.heap.size+1]? = some (.cells (nums .u8 (fun j => if j < 2 * i then hexv K j else 0) 64) 5 (0, 0)) ∧ Below w.heap.size w wr)
  case atStart =>
    refine ⟨0, by omega, rfl, rfl, ?_, ((Below.refl _ _).alloc (Nat.le_refl _) _).alloc (by simp) _⟩
    rw [heap_new' _ _ _ (by simp), nums_congr .u8 (fun j => if j < 2 * 0 then hexv K j else 0) (fun _ => 0) 64 (fun j hj => by simp)]
  case round =>
    obtain ⟨i, hi, rfl, rfl, hR, hB⟩ := hrel
    by_cases h32 : i < 32
    · have hix := run_index_nums (P := Tryd.prog) 25 5 32 .u8 K .i64 i h32 und25 und5 inf5
      have hd1 := run_digit (K i / 16) (by have := HK.out i; unfold U8 at this; omega) (by have := HK.out i; unfold U8 at this; omega)
      have hd2 := run_digit (K i % 16) (by omega) (by omega)
      have hu := HK.out i
      unfold U8 at hu
      have hb16 := u8_and15 (K i) hu.1 hu.2
      have hsp := app_spare hR (2 * i) 2 (by omega)
      have hnw := app_news wr (hexd (K i / 16)) (hexd (K i % 16))
      obtain ⟨i5, hi5, hz5, hs5, hy5⟩ := info_parts info5
      have hr2 := hex_round hR hB i h32 rfl (hexd (K i / 16)) (hexd (K i % 16)) (by unfold hexv; rw [if_pos (by omega), show 2 * i / 2 = i by omega]) (by unfold hexv; rw [if_neg (by omega), show (2 * i + 1) / 2 = i by omega])
      have HR2 := Lib.hid hr2; clear hr2
      have HSP := Lib.hid hsp
      have HNW := Lib.hid hnw
      clear hsp hnw
      go_wp2_with fail
      go_region_law (refine step_append_room rfl (.tmp 11) (.tmp 18) 50 rfl 5 i5 1 und50 hi5 hs5 (w.heap.size+1) 0 (2 * i) 64 rfl ⟨wr.heap.size, 0, none⟩ 2 2 [.int .u8 (hexd (K i / 16)), .int .u8 (hexd (K i % 16))] rfl rfl HNW.out (by intro u hu; simp at hu; rcases hu with rfl | rfl <;> rfl) (by omega) (HSP.out _) ?_)
      all_goals
        go_wp2_with fail
        go_roundg (32 - (i+1))
        case measure => omega
        case rel => exact ⟨i+1, by omega, by go_num, by rw [show 2 * (i+1) = 2 * i + 2 by omega], HR2.out.1, HR2.out.2⟩
    · obtain rfl : i = 32 := by omega
      have hcv := run_convert_bytes_arg (P := Tryd.prog) wr 50 5 und50 und5 (w.heap.size+1) 0 64 64 ((List.range 64).map (hexv K)) (by simp) (fun j hj => by
        rw [Nat.zero_add, nums_cell hR j hj, if_pos (by omega), List.getD_eq_getElem?_getD, List.getElem?_map, List.getElem?_range hj]; rfl) 9 und9
      go_wp2_with fail
      go_ret
      exact ⟨rfl, hB⟩
end Go.Proofs.YtoijdiokomineaaDoor
