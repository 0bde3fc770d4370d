/-
  The laws' comparisons (sameInts, sameLists, sameImage): where both sides read as the same, they say so.
  An argument of the type api.Image, opened: what it reads as is an image in memory; and how many bytes its lists may take.
-/
import Derived.Test.YtpgifkhgefbnfaaDoorOwn
import Derived.Test.YtpgifkhgefbnfaaDoorLift
import Derived.Deep.QuietTactic
import Derived.BigQuiet
import Derived.Deep.RegionHeld3
import Derived.Lib.Hide
import Derived.Laws.IdiomStrings
import Derived.Lib.BufferRead
import Derived.Test.YtpgifkhgefbnfaaDoorProg
import Derived.KernelRfl
section
namespace Go.Proofs.YtpgifkhgefbnfaaDoor
open Go.RowKit BH
set_option maxHeartbeats 1000000
set_option maxRecDepth 100000

/-- 'string(b)' -/
theorem run_string_of {P : Program} {w : World} {v : Value} {l : List UInt8} (h : Bytes w v l) {src dst e : TypeId} (hs : P.underlying src = some (.slice e)) (he : P.underlying e = some (.int .u8)) (hd : P.underlying dst = some .string) :
    (convert src dst v).run P w = .ok (.string ⟨l.toArray⟩) w := by
  obtain ⟨ao, cap, rfl, -, -, -, hc⟩ := h
  cases ao with
  | none =>
    have hl : l = [] := by
      cases l with
      | nil => rfl
      | cons x r => obtain ⟨b, off, hab, _⟩ := hc (by simp); cases hab
    subst hl
    exact Lib.run_convert_nil_bytes w src dst e cap hs he hd
  | some a =>
    refine run_convert_bytes_back w src dst e a cap l hs he hd fun j hj => ?_
    obtain ⟨b, off, hab, hcell⟩ := hc (by omega)
    cases hab
    have : w.cell? ⟨b, off + j * 1 + 0, none⟩ = some (.int .u8 ((nth l j).toNat : Int)) := hcell j 0 hj (by omega)
    rw [nth_eq l j hj] at this
    rw [← this]
    unfold Addr.add
    split
    · rename_i h0; subst h0; simp
    · simp

theorem sameInts_yes (va vb : Value) (l : List Int) (w : World) (ha : Ints w va l) (hb : Ints w vb l) :
    Calls Tryd.prog 38 #[va, vb] w fun e w' => e = .returned (.bool true) ∧ Keeps w w' := by
  obtain ⟨ao, ca, rfl, a1, a2, -, a3⟩ := ha
  obtain ⟨bo, cb, rfl, b1, b2, -, b3⟩ := hb
  unfold maxLen at a2 b2
  go_enter Tryd.func38, Tryd.ntmps38
  go_wp2
  go_loopw [5] (fun i wr => ∃ k : Nat, k ≤ l.length ∧ i = .int .i64 k ∧ Keeps w wr) (fun i _ => l.length - (intOf i).toNat)
  case atStart => exact ⟨0, Nat.zero_le _, rfl, Keeps.refl _⟩
  case round =>
    obtain ⟨k, hk, rfl, hkeep⟩ := hrel
    by_cases hlt : k < l.length
    · obtain ⟨ab, af, rfl, ac⟩ := a3 (by omega)
      obtain ⟨bb, bf, rfl, bc⟩ := b3 (by omega)
      have c1 := hkeep.cell (ac k 0 hlt (by omega))
      have c2 := hkeep.cell (bc k 0 hlt (by omega))
      simp only [Nat.mul_one, Nat.add_zero] at c1 c2
      clear a3 b3 ac bc
      go_wp2
      go_quiet (fail)
      go_wp2
      go_roundw
      case rel => exact ⟨k + 1, by omega, by go_num, hkeep.drewN _⟩
      case measure => simp [intOf]; omega
    · clear a3 b3
      go_wp2
      go_ret
      exact ⟨rfl, hkeep⟩

theorem sameLists_yes (va vb : Value) (l : List (List Int)) (w : World) (ha : Tabs w va l) (hb : Tabs w vb l) :
    Calls Tryd.prog 37 #[va, vb] w fun e w' => e = .returned (.bool true) ∧ Keeps w w' := by
  obtain ⟨ta, ⟨ao, ca, rfl, a1, a2, -, a3⟩, ia⟩ := ha
  obtain ⟨tb, ⟨bo, cb, rfl, b1, b2, -, b3⟩, ib⟩ := hb
  unfold maxLen at a2 b2
  go_enter Tryd.func37, Tryd.ntmps37
  go_wp2
  go_loopw [5] (fun i wr => ∃ k : Nat, k ≤ l.length ∧ i = .int .i64 k ∧ Keeps w wr) (fun i _ => l.length - (intOf i).toNat)
  case atStart => exact ⟨0, Nat.zero_le _, rfl, Keeps.refl _⟩
  case round =>
    obtain ⟨k, hk, rfl, hkeep⟩ := hrel
    by_cases hlt : k < l.length
    · obtain ⟨ab, af, rfl, ac⟩ := a3 (by omega)
      obtain ⟨bb, bf, rfl, bc⟩ := b3 (by omega)
      have c1 := hkeep.cell (ac k 0 hlt (by omega))
      have c2 := hkeep.cell (bc k 0 hlt (by omega))
      simp only [Nat.mul_one, Nat.add_zero] at c1 c2
      have hA := (ia k hlt).keep hkeep
      have hB := (ib k hlt).keep hkeep
      clear a3 b3 ac bc ia ib
      go_wp2
      go_region_held3 (fun w' => w'.cell? ⟨ab, af + k, none⟩ = some (ta k) ∧ w'.cell? ⟨bb, bf + k, none⟩ = some (tb k)) (first | go_keep | exact ⟨hk1.cell (by assumption), hk1.cell (by assumption)⟩) ((go_at_call 38; refine (sameInts_yes _ _ _ _ (hA.keep (Keeps.drewN (Keeps.refl _) _)) (hB.keep (Keeps.drewN (Keeps.refl _) _))).mono ?_; rintro e w' ⟨rfl, hk1⟩))
      go_wp2
      go_roundw
      case rel => exact ⟨k + 1, by omega, by go_num, (hkeep.drewN _).trans hk1⟩
      case measure => simp [intOf]; omega
    · clear a3 b3
      go_wp2
      go_ret
      exact ⟨rfl, hkeep⟩

theorem sameImage_yes (va vb : Value) (m : Img) (w : World) (ha : ImgAt w va m) (hb : ImgAt w vb m) :
    Calls Tryd.prog 13 #[va, vb] w fun e w' => e = .returned (.bool true) ∧ Keeps w w' := by
  obtain ⟨a0, a1, a2, a3, a4, rfl, ab, af, at_, ad, al⟩ := ha
  obtain ⟨b0, b1, b2, b3, b4, rfl, bb, bf, bt, bd, bl⟩ := hb
  go_enter Tryd.func13, Tryd.ntmps13
  go_wp2_with fail
  rw [run_string_of (Arr.keep ab (((Keeps.refl w).alloc _).alloc _)) Tryd.underlying22 Tryd.underlying5 Tryd.underlying9]
  go_wp2_with fail
  rw [run_string_of (Arr.keep bb (((Keeps.refl w).alloc _).alloc _)) Tryd.underlying22 Tryd.underlying5 Tryd.underlying9]
  obtain ⟨ao, ac, rfl, af1, af2, -, af3⟩ := af
  obtain ⟨bo, bc, rfl, bf1, bf2, -, bf3⟩ := bf
  obtain ⟨co, cc, rfl, al1, al2, -, al3⟩ := al
  obtain ⟨do_, dc, rfl, bl1, bl2, -, bl3⟩ := bl
  unfold maxLen at af2 al2
  go_wp2_with fail
  refine (sameInts_yes _ _ m.Data _ (Arr.keep ad (((Keeps.refl w).alloc _).alloc _)) (Arr.keep bd (((Keeps.refl w).alloc _).alloc _))).mono ?_
  rintro e w1 ⟨rfl, hk1⟩
  have p1 : w1.cell? ⟨w.heap.size, 1, none⟩ = some (.slice ao m.Funcs.length ac) := hk1.cell (by simp)
  have p2 : w1.cell? ⟨w.heap.size, 2, none⟩ = some a2 := hk1.cell (by simp)
  have p4 : w1.cell? ⟨w.heap.size, 4, none⟩ = some (.slice co m.Lines.length cc) := hk1.cell (by simp)
  have q1 : w1.cell? ⟨w.heap.size + 1, 1, none⟩ = some (.slice bo m.Funcs.length bc) := hk1.cell (by simp)
  have q2 : w1.cell? ⟨w.heap.size + 1, 2, none⟩ = some b2 := hk1.cell (by simp)
  have q4 : w1.cell? ⟨w.heap.size + 1, 4, none⟩ = some (.slice do_ m.Lines.length dc) := hk1.cell (by simp)
  have hkw1 : Keeps w w1 := (((Keeps.refl w).alloc _).alloc _).trans hk1
  go_wp2_with fail
  refine (sameLists_yes _ _ m.Tables _ (at_.keep hkw1) (bt.keep hkw1)).mono ?_
  rintro e w2 ⟨rfl, hk2⟩
  have r1 : w2.cell? ⟨w.heap.size, 1, none⟩ = some (.slice ao m.Funcs.length ac) := hk2.cell p1
  have r4 : w2.cell? ⟨w.heap.size, 4, none⟩ = some (.slice co m.Lines.length cc) := hk2.cell p4
  have s1 : w2.cell? ⟨w.heap.size + 1, 1, none⟩ = some (.slice bo m.Funcs.length bc) := hk2.cell q1
  have s4 : w2.cell? ⟨w.heap.size + 1, 4, none⟩ = some (.slice do_ m.Lines.length dc) := hk2.cell q4
  have hkw2 : Keeps w w2 := hkw1.trans hk2
  clear p1 p2 p4 q1 q2 q4 hk1 hk2 hkw1 ab ad at_ bb bd bt
  go_wp2_with fail
  go_loopw [5] (fun i wr => ∃ k : Nat, k ≤ m.Funcs.length ∧ i = .int .i64 k ∧ Keeps w2 wr) (fun i _ => m.Funcs.length - (intOf i).toNat)
  case atStart => exact ⟨0, Nat.zero_le _, rfl, Keeps.refl _⟩
  case round =>
    obtain ⟨k, hk, rfl, hkeep⟩ := hrel
    have fA1 := hkeep.cell r1
    have fA4 := hkeep.cell r4
    have fB1 := hkeep.cell s1
    have fB4 := hkeep.cell s4
    by_cases hlt : k < m.Funcs.length
    · obtain ⟨ab, aff, rfl, acc⟩ := af3 (by omega)
      obtain ⟨bb, bff, rfl, bcc⟩ := bf3 (by omega)
      have hkk := hkw2.trans hkeep
      have c0 : wr.cell? ⟨ab, aff + k * 3, none⟩ = some (.string (nth m.Funcs k).Name) := hkk.cell (acc k 0 hlt (by omega))
      have c1 : wr.cell? ⟨ab, aff + k * 3 + 1, none⟩ = some (.int .i64 (nth m.Funcs k).Start) := hkk.cell (acc k 1 hlt (by omega))
      have c2 : wr.cell? ⟨ab, aff + k * 3 + 2, none⟩ = some (.int .i64 (nth m.Funcs k).Size) := hkk.cell (acc k 2 hlt (by omega))
      have d0 : wr.cell? ⟨bb, bff + k * 3, none⟩ = some (.string (nth m.Funcs k).Name) := hkk.cell (bcc k 0 hlt (by omega))
      have d1 : wr.cell? ⟨bb, bff + k * 3 + 1, none⟩ = some (.int .i64 (nth m.Funcs k).Start) := hkk.cell (bcc k 1 hlt (by omega))
      have d2 : wr.cell? ⟨bb, bff + k * 3 + 2, none⟩ = some (.int .i64 (nth m.Funcs k).Size) := hkk.cell (bcc k 2 hlt (by omega))
      clear af3 bf3 al3 bl3 acc bcc r1 r4 s1 s4
      go_wp2
      go_quiet (fail)
      go_wp2
      go_roundw
      case rel => exact ⟨k + 1, by omega, by go_num, hkeep.drewN _⟩
      case measure => simp [intOf]; omega
    · clear af3 bf3 r1 r4 s1 s4
      have hkk := hkw2.trans hkeep
      obtain ⟨wo, rfl⟩ : ∃ wo : World, wo = wr := ⟨_, rfl⟩
      go_wp2
      go_loopw [6] (fun i wx => ∃ j : Nat, j ≤ m.Lines.length ∧ i = .int .i64 j ∧ Keeps wo wx) (fun i _ => m.Lines.length - (intOf i).toNat)
      case atStart => exact ⟨0, Nat.zero_le _, rfl, Keeps.refl _⟩
      case round =>
        obtain ⟨j, hj, rfl, hkx⟩ := hrel
        have x4 := hkx.cell fA4
        have y4 := hkx.cell fB4
        by_cases hlt' : j < m.Lines.length
        · obtain ⟨ab, aff, rfl, acc⟩ := al3 (by omega)
          obtain ⟨bb, bff, rfl, bcc⟩ := bl3 (by omega)
          have hkz := hkk.trans hkx
          have c0 : wr.cell? ⟨ab, aff + j * 2, none⟩ = some (.int .i64 (nth m.Lines j).At) := hkz.cell (acc j 0 hlt' (by omega))
          have c1 : wr.cell? ⟨ab, aff + j * 2 + 1, none⟩ = some (.int .i64 (nth m.Lines j).N) := hkz.cell (acc j 1 hlt' (by omega))
          have d0 : wr.cell? ⟨bb, bff + j * 2, none⟩ = some (.int .i64 (nth m.Lines j).At) := hkz.cell (bcc j 0 hlt' (by omega))
          have d1 : wr.cell? ⟨bb, bff + j * 2 + 1, none⟩ = some (.int .i64 (nth m.Lines j).N) := hkz.cell (bcc j 1 hlt' (by omega))
          clear al3 bl3 acc bcc fA1 fA4 fB1 fB4
          go_wp2
          go_quiet (fail)
          go_wp2
          go_roundw
          case rel => exact ⟨j + 1, by omega, by go_num, hkx.drewN _⟩
          case measure => simp [intOf]; omega
        · clear al3 bl3 fA1 fA4 fB1 fB4
          go_wp2
          go_ret
          exact ⟨rfl, hkk.trans hkx⟩
end Go.Proofs.YtpgifkhgefbnfaaDoor
end
section
namespace Go.Proofs.YtpgifkhgefbnfaaDoor
open Go.RowKit BH Go.ChangeShapes Go.WideShapes Go.Deep
set_option maxRecDepth 100000
section
variable {H : Type} {enc : TypeId × Value → H} {w : World}
theorem cells_int : Tryd.prog.cellsOf 3 = 1 := by kernel_rfl
theorem bytes_int : Tryd.prog.bytesOf 3 = 8 := by kernel_rfl
theorem cells_u8 : Tryd.prog.cellsOf 5 = 1 := by kernel_rfl
theorem bytes_u8 : Tryd.prog.bytesOf 5 = 1 := by kernel_rfl
theorem cells_ints : Tryd.prog.cellsOf 32 = 1 := by kernel_rfl
theorem bytes_ints : Tryd.prog.bytesOf 32 = 24 := by kernel_rfl
theorem cells_line : Tryd.prog.cellsOf 72 = 2 := by kernel_rfl
theorem bytes_line : Tryd.prog.bytesOf 72 = 16 := by kernel_rfl
theorem cells_fun : Tryd.prog.cellsOf 70 = 3 := by kernel_rfl
theorem bytes_fun : Tryd.prog.bytesOf 70 = 32 := by kernel_rfl
theorem cells_img : Tryd.prog.cellsOf 35 = 6 := by kernel_rfl
theorem cells_str : Tryd.prog.cellsOf 9 = 1 := by kernel_rfl
theorem cells_bytes : Tryd.prog.cellsOf 22 = 1 := by kernel_rfl
theorem cells_funs : Tryd.prog.cellsOf 30 = 1 := by kernel_rfl
theorem cells_tabs : Tryd.prog.cellsOf 31 = 1 := by kernel_rfl
theorem cells_lines : Tryd.prog.cellsOf 33 = 1 := by kernel_rfl

theorem line_open {fuel : Nat} {c0 c1 : Value} {x : DataW H × List MemPlace} (h : DataW.trod enc Tryd.prog w 0 (fun _ => true) true fuel 72 [c0, c1] = some x) :
    ∃ z : Ln, c0 = .int .i64 z.At ∧ c1 = .int .i64 z.N ∧ I64 z.At ∧ I64 z.N := by
  obtain ⟨y0, y1, n, -, -, h0, h1⟩ := trod_struct2 Tryd.underlying72 h
  simp only [cells_int, List.drop, List.take] at h0 h1
  obtain ⟨a, rfl, ha⟩ := int_open Tryd.underlying3 h0
  obtain ⟨b, rfl, hb⟩ := int_open Tryd.underlying3 h1
  exact ⟨⟨a, b⟩, rfl, rfl, ha, hb⟩
theorem lines_open {fuel : Nat} {c : Value} {x : DataW H × List MemPlace} (h : DataW.trod enc Tryd.prog w 0 (fun _ => true) true fuel 33 [c] = some x) (hf : Fits Tryd.prog 33 x.1) :
    ∃ l : List Ln, Lines w c l ∧ (∀ i, i < l.length → I64 (nth l i).At ∧ I64 (nth l i).N) ∧ l.length * 16 ≤ reachBytes := by
  obtain ⟨n, m, cs, ha, hb, hx⟩ := arr_open Tryd.underlying33 cells_line (by omega) h hf
  obtain ⟨f, hfz⟩ := choose_lt (α := Ln) (p := fun i z => cs i 0 = .int .i64 z.At ∧ cs i 1 = .int .i64 z.N ∧ I64 z.At ∧ I64 z.N) (fun i hi => by
    obtain ⟨y, hy, _⟩ := hx i hi
    exact line_open hy)
  refine ⟨(List.range n).map f, ?_, fun i hi => ?_, by simpa [bytes_line] using hb⟩
  · unfold Lines
    simp only [List.length_map, List.length_range]
    exact ha.congr fun i j hi hj => by
      rw [nth_map_range f hi]
      obtain ⟨h0, h1, _⟩ := hfz i hi
      match j, hj with
      | 0, _ => exact h0
      | 1, _ => exact h1
  · simp only [List.length_map, List.length_range] at hi
    rw [nth_map_range f hi]; exact (hfz i hi).2.2

theorem fun_open {fuel : Nat} {c0 c1 c2 : Value} {x : DataW H × List MemPlace} (h : DataW.trod enc Tryd.prog w 0 (fun _ => true) true fuel 70 [c0, c1, c2] = some x) :
    ∃ z : Fu, c0 = .string z.Name ∧ c1 = .int .i64 z.Start ∧ c2 = .int .i64 z.Size ∧ z.Name.size ≤ maxLen ∧ I64 z.Start ∧ I64 z.Size := by
  obtain ⟨y0, y1, y2, n, -, -, h0, h1, h2⟩ := trod_struct3 Tryd.underlying70 h
  simp only [cells_int, cells_str, List.drop, List.take] at h0 h1 h2
  obtain ⟨s, hc, -, hs⟩ := DataW.trod_string Tryd.underlying9 h0
  simp only [List.cons.injEq, and_true] at hc
  obtain ⟨a, rfl, ha⟩ := int_open Tryd.underlying3 h1
  obtain ⟨b, rfl, hb⟩ := int_open Tryd.underlying3 h2
  exact ⟨⟨s, a, b⟩, hc, rfl, rfl, hs, ha, hb⟩
theorem funs_open {fuel : Nat} {c : Value} {x : DataW H × List MemPlace} (h : DataW.trod enc Tryd.prog w 0 (fun _ => true) true fuel 30 [c] = some x) (hf : Fits Tryd.prog 30 x.1) :
    ∃ l : List Fu, Funs w c l ∧ (∀ i, i < l.length → (nth l i).Name.size ≤ maxLen ∧ I64 (nth l i).Start ∧ I64 (nth l i).Size) ∧ l.length * 32 ≤ reachBytes := by
  obtain ⟨n, m, cs, ha, hb, hx⟩ := arr_open Tryd.underlying30 cells_fun (by omega) h hf
  obtain ⟨f, hfz⟩ := choose_lt (α := Fu) (p := fun i z => cs i 0 = .string z.Name ∧ cs i 1 = .int .i64 z.Start ∧ cs i 2 = .int .i64 z.Size ∧ z.Name.size ≤ maxLen ∧ I64 z.Start ∧ I64 z.Size) (fun i hi => by
    obtain ⟨y, hy, _⟩ := hx i hi
    exact fun_open hy)
  refine ⟨(List.range n).map f, ?_, fun i hi => ?_, by simpa [bytes_fun] using hb⟩
  · unfold Funs
    simp only [List.length_map, List.length_range]
    exact ha.congr fun i j hi hj => by
      rw [nth_map_range f hi]
      obtain ⟨h0, h1, h2, _⟩ := hfz i hi
      match j, hj with
      | 0, _ => exact h0
      | 1, _ => exact h1
      | 2, _ => exact h2
  · simp only [List.length_map, List.length_range] at hi
    rw [nth_map_range f hi]; exact (hfz i hi).2.2.2

theorem tabs_open {fuel : Nat} {c : Value} {x : DataW H × List MemPlace} (h : DataW.trod enc Tryd.prog w 0 (fun _ => true) true fuel 31 [c] = some x) (hf : Fits Tryd.prog 31 x.1) :
    ∃ l : List (List Int), Tabs w c l ∧ (∀ i, i < l.length → (∀ j, j < (nth l i).length → I64 (nth (nth l i) j)) ∧ (nth l i).length * 8 ≤ reachBytes) ∧ l.length * 24 ≤ reachBytes := by
  obtain ⟨n, m, cs, ha, hb, hx⟩ := arr_open Tryd.underlying31 cells_ints (by omega) h hf
  obtain ⟨f, hfz⟩ := choose_lt (α := List Int) (p := fun i z => Ints w (cs i 0) z ∧ (∀ j, j < z.length → I64 (nth z j)) ∧ z.length * 8 ≤ reachBytes) (fun i hi => by
    obtain ⟨y, hy, hfy⟩ := hx i hi
    exact ints_open Tryd.underlying32 cells_int Tryd.underlying3 bytes_int hy hfy)
  refine ⟨(List.range n).map f, ⟨fun i => cs i 0, ?_, fun i hi => ?_⟩, fun i hi => ?_, by simpa [bytes_ints] using hb⟩
  · simp only [List.length_map, List.length_range]
    exact ha.congr fun i j hi hj => by rw [show j = 0 by omega]
  · simp only [List.length_map, List.length_range] at hi
    rw [nth_map_range f hi]; exact (hfz i hi).1
  · simp only [List.length_map, List.length_range] at hi
    rw [nth_map_range f hi]; exact (hfz i hi).2

/-- what is known of the numbers and lengths of an image that came in -/
structure ImgOk (m : Img) : Prop where
  text : m.Text.length ≤ reachBytes
  funs : ∀ i, i < m.Funcs.length → (nth m.Funcs i).Name.size ≤ maxLen ∧ I64 (nth m.Funcs i).Start ∧ I64 (nth m.Funcs i).Size
  funsN : m.Funcs.length * 32 ≤ reachBytes
  tabs : ∀ i, i < m.Tables.length → (∀ j, j < (nth m.Tables i).length → I64 (nth (nth m.Tables i) j)) ∧ (nth m.Tables i).length * 8 ≤ reachBytes
  tabsN : m.Tables.length * 24 ≤ reachBytes
  data : ∀ i, i < m.Data.length → I64 (nth m.Data i)
  dataN : m.Data.length * 8 ≤ reachBytes
  lines : ∀ i, i < m.Lines.length → I64 (nth m.Lines i).At ∧ I64 (nth m.Lines i).N
  linesN : m.Lines.length * 16 ≤ reachBytes
  entry : I64 m.Entry

theorem array6 {α : Type} {a : Array α} (h : a.size = 6) : ∃ c0 c1 c2 c3 c4 c5, a = #[c0, c1, c2, c3, c4, c5] := by
  obtain ⟨l⟩ := a
  match l, h with
  | [c0, c1, c2, c3, c4, c5], _ => exact ⟨c0, c1, c2, c3, c4, c5, rfl⟩

theorem img_open {r : Reach} {b0 : Nat} {v : Value} {d : DataW H} {p : List MemPlace} (hv : Value.okWide Tryd.prog w r b0 35 v) (h : DataW.Trod enc Tryd.prog w 0 (fun _ => true) true 35 v d p) (hf : Fits Tryd.prog 35 d) :
    ∃ m : Img, ImgAt w v m ∧ ImgOk m := by
  obtain ⟨cs, rfl, hsz⟩ := okWide_struct Tryd.underlying35 hv
  obtain ⟨c0, c1, c2, c3, c4, c5, rfl⟩ := array6 (hsz.trans cells_img)
  obtain ⟨fuel, ht⟩ := h
  obtain ⟨xs, n, -, hd, -, hl, hx⟩ := DataW.trod_struct Tryd.underlying35 ht
  simp only [List.size_toArray, List.length_cons, List.length_nil] at hl
  match xs, hl with
  | [y0, y1, y2, y3, y4, y5], _ =>
    simp only [Prod.mk.injEq] at hd
    obtain ⟨rfl, -⟩ := hd
    have hfw : ∀ (j : Nat) (t : TypeId) (y : DataW H), [22, 30, 31, 32, 33, 3][j]? = some t → ([y0, y1, y2, y3, y4, y5].map (·.1))[j]? = some y → Fits Tryd.prog t y := fun j t y h1 h2 k hk => by
      refine hf k ?_
      simp only [DataW.weights, Tryd.underlying35]
      exact DataW.weights_mem_each h1 h2 k hk
    have h0 := hx 0 _ rfl
    have h1 := hx 1 _ rfl
    have h2 := hx 2 _ rfl
    have h3 := hx 3 _ rfl
    have h4 := hx 4 _ rfl
    have h5 := hx 5 _ rfl
    simp only [List.getElem?_cons_zero, List.getElem?_cons_succ] at h0 h1 h2 h3 h4 h5
    obtain ⟨l0, a0, b0⟩ := bytes_open Tryd.underlying22 cells_u8 Tryd.underlying5 bytes_u8 h0 (hfw 0 _ _ rfl rfl)
    obtain ⟨l1, a1, b1, n1⟩ := funs_open h1 (hfw 1 _ _ rfl rfl)
    obtain ⟨l2, a2, b2, n2⟩ := tabs_open h2 (hfw 2 _ _ rfl rfl)
    obtain ⟨l3, a3, b3, n3⟩ := ints_open Tryd.underlying32 cells_int Tryd.underlying3 bytes_int h3 (hfw 3 _ _ rfl rfl)
    obtain ⟨l4, a4, b4, n4⟩ := lines_open h4 (hfw 4 _ _ rfl rfl)
    obtain ⟨z, rfl, b5⟩ := int_open Tryd.underlying3 h5
    exact ⟨⟨l0, l1, l2, l3, l4, z⟩, ⟨c0, c1, c2, c3, c4, rfl, a0, a1, a2, a3, a4⟩, ⟨b0, b1, n1, b2, n2, b3, n3, b4, n4, b5⟩⟩
end
end Go.Proofs.YtpgifkhgefbnfaaDoor
end
