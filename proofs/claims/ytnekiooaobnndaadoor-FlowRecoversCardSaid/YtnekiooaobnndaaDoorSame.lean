/-
 What an append does to a slice of the call's own, whatever is appended: a slice that came in (nil or not), a string's bytes. No program is named here.
 The laws' comparisons (sameInts, sameLists, sameImage): where both sides read as the same, they say so.
-/
import Derived.Test.YtnekiooaobnndaaDoorOwn
import Derived.Deep.AppendSrc
import Derived.Test.YtnekiooaobnndaaDoorRegHead
import Derived.Deep.QuietTactic
import Derived.BigQuiet
import Derived.Deep.RegionHeld3
import Derived.Lib.Hide
import Derived.Laws.IdiomStrings
import Derived.Lib.BufferRead
section
namespace Go.Proofs.YtnekiooaobnndaaDoor.BH
open Go.RowKit

section
variable {P : Program} {w : World} {ops : Array Oper} {rest : List Oper} {o : Oper} {a : Act} {Q : Exit → Act → World → Prop}

end
end Go.Proofs.YtnekiooaobnndaaDoor.BH
end
section
namespace Go.Proofs.YtnekiooaobnndaaDoor
open Go.RowKit BH
set_option maxHeartbeats 1000000
set_option maxRecDepth 100000

/-- 'string(b)' -/
theorem run_string_of {P : Program} {w : World} {v : Value} {l : List UInt8} (h : Bytes w v l) {src dst e : TypeId} (hs : P.underlying src = some (.slice e)) (he : P.underlying e = some (.int .u8)) (hd : P.underlying dst = some .string) :
  (convert src dst v).run P w = .ok (.string ⟨l.toArray⟩) w := by
 obtain ⟨ao, cap, rfl, -, -, -, hc⟩ := h
 cases ao with
 | none =>
  have hl : l = [] := by
   cases l with
   | nil => rfl
   | cons x r => obtain ⟨b, off, hab, _⟩ := hc (by simp); cases hab
  subst hl
  exact Lib.run_convert_nil_bytes w src dst e cap hs he hd
 | some a =>
  refine run_convert_bytes_back w src dst e a cap l hs he hd fun j hj => ?_
  obtain ⟨b, off, hab, hcell⟩ := hc (by omega)
  cases hab
  have : w.cell? ⟨b, off + j * 1 + 0, none⟩ = some (.int .u8 ((nth l j).toNat : Int)) := hcell j 0 hj (by omega)
  rw [nth_eq l j hj] at this
  rw [← this]
  unfold Addr.add
  split
  ·rename_i h0; subst h0; simp
  ·simp

theorem sameInts_yes (va vb : Value) (l : List Int) (w : World) (ha : Ints w va l) (hb : Ints w vb l) :
  Calls Tryd.prog 27 #[va, vb] w fun e w' => e = .returned (.bool true) ∧ Keeps w w' := by
 obtain ⟨ao, ca, rfl, a1, a2, -, a3⟩ := ha
 obtain ⟨bo, cb, rfl, b1, b2, -, b3⟩ := hb
 unfold maxLen at a2 b2
 go_enter Tryd.func27, Tryd.ntmps27
 go_wp2
 go_loopw [5] (fun i wr => ∃ k : Nat, k ≤ l.length ∧ i = .int .i64 k ∧ Keeps w wr) (fun i _ => l.length - (intOf i).toNat)
 case atStart => exact ⟨0, Nat.zero_le _, rfl, Keeps.refl _⟩
 case round =>
  obtain ⟨k, hk, rfl, hkeep⟩ := hrel
  by_cases hlt : k < l.length
  ·obtain ⟨ab, af, rfl, ac⟩ := a3 (by omega)
   obtain ⟨bb, bf, rfl, bc⟩ := b3 (by omega)
   have c1 := hkeep.cell (ac k 0 hlt (by omega))
   have c2 := hkeep.cell (bc k 0 hlt (by omega))
   simp only [Nat.mul_one, Nat.add_zero] at c1 c2
   clear a3 b3 ac bc
   go_wp2
   go_quiet (fail)
   go_wp2
   go_roundw
   case rel => exact ⟨k + 1, by omega, by go_num, hkeep.drewN _⟩
   case measure => simp [intOf]; omega
  ·clear a3 b3
   go_wp2
   go_ret
   exact ⟨rfl, hkeep⟩

theorem sameLists_yes (va vb : Value) (l : List (List Int)) (w : World) (ha : Tabs w va l) (hb : Tabs w vb l) :
  Calls Tryd.prog 26 #[va, vb] w fun e w' => e = .returned (.bool true) ∧ Keeps w w' := by
 obtain ⟨ta, ⟨ao, ca, rfl, a1, a2, -, a3⟩, ia⟩ := ha
 obtain ⟨tb, ⟨bo, cb, rfl, b1, b2, -, b3⟩, ib⟩ := hb
 unfold maxLen at a2 b2
 go_enter Tryd.func26, Tryd.ntmps26
 go_wp2
 go_loopw [5] (fun i wr => ∃ k : Nat, k ≤ l.length ∧ i = .int .i64 k ∧ Keeps w wr) (fun i _ => l.length - (intOf i).toNat)
 case atStart => exact ⟨0, Nat.zero_le _, rfl, Keeps.refl _⟩
 case round =>
  obtain ⟨k, hk, rfl, hkeep⟩ := hrel
  by_cases hlt : k < l.length
  ·obtain ⟨ab, af, rfl, ac⟩ := a3 (by omega)
   obtain ⟨bb, bf, rfl, bc⟩ := b3 (by omega)
   have c1 := hkeep.cell (ac k 0 hlt (by omega))
   have c2 := hkeep.cell (bc k 0 hlt (by omega))
   simp only [Nat.mul_one, Nat.add_zero] at c1 c2
   have hA := (ia k hlt).keep hkeep
   have hB := (ib k hlt).keep hkeep
   clear a3 b3 ac bc ia ib
   go_wp2
   go_region_held3 (fun w' => w'.cell? ⟨ab, af + k, none⟩ = some (ta k) ∧ w'.cell? ⟨bb, bf + k, none⟩ = some (tb k)) (first | go_keep | exact ⟨hk1.cell (by assumption), hk1.cell (by assumption)⟩) ((go_at_call 27; refine (sameInts_yes _ _ _ _ (hA.keep (Keeps.drewN (Keeps.refl _) _)) (hB.keep (Keeps.drewN (Keeps.refl _) _))).mono ?_; rintro e w' ⟨rfl, hk1⟩))
   go_wp2
   go_roundw
   case rel => exact ⟨k + 1, by omega, by go_num, (hkeep.drewN _).trans hk1⟩
   case measure => simp [intOf]; omega
  ·clear a3 b3
   go_wp2
   go_ret
   exact ⟨rfl, hkeep⟩

theorem sameImage_yes (va vb : Value) (m : Img) (w : World) (ha : ImgAt w va m) (hb : ImgAt w vb m) :
  Calls Tryd.prog 9 #[va, vb] w fun e w' => e = .returned (.bool true) ∧ Keeps w w' := by
 obtain ⟨a0, a1, a2, a3, a4, rfl, ab, af, at_, ad, al⟩ := ha
 obtain ⟨b0, b1, b2, b3, b4, rfl, bb, bf, bt, bd, bl⟩ := hb
 go_enter Tryd.func9, Tryd.ntmps9
 go_wp2_with fail
 rw [run_string_of (Arr.keep ab (((Keeps.refl w).alloc _).alloc _)) Tryd.underlying22 Tryd.underlying5 Tryd.underlying9]
 go_wp2_with fail
 rw [run_string_of (Arr.keep bb (((Keeps.refl w).alloc _).alloc _)) Tryd.underlying22 Tryd.underlying5 Tryd.underlying9]
 obtain ⟨ao, ac, rfl, af1, af2, -, af3⟩ := af
 obtain ⟨bo, bc, rfl, bf1, bf2, -, bf3⟩ := bf
 obtain ⟨co, cc, rfl, al1, al2, -, al3⟩ := al
 obtain ⟨do_, dc, rfl, bl1, bl2, -, bl3⟩ := bl
 unfold maxLen at af2 al2
 go_wp2_with fail
 refine (sameInts_yes _ _ m.Data _ (Arr.keep ad (((Keeps.refl w).alloc _).alloc _)) (Arr.keep bd (((Keeps.refl w).alloc _).alloc _))).mono ?_
 rintro e w1 ⟨rfl, hk1⟩
 have p1 : w1.cell? ⟨w.heap.size, 1, none⟩ = some (.slice ao m.Funcs.length ac) := hk1.cell (by simp)
 have p2 : w1.cell? ⟨w.heap.size, 2, none⟩ = some a2 := hk1.cell (by simp)
 have p4 : w1.cell? ⟨w.heap.size, 4, none⟩ = some (.slice co m.Lines.length cc) := hk1.cell (by simp)
 have q1 : w1.cell? ⟨w.heap.size + 1, 1, none⟩ = some (.slice bo m.Funcs.length bc) := hk1.cell (by simp)
 have q2 : w1.cell? ⟨w.heap.size + 1, 2, none⟩ = some b2 := hk1.cell (by simp)
 have q4 : w1.cell? ⟨w.heap.size + 1, 4, none⟩ = some (.slice do_ m.Lines.length dc) := hk1.cell (by simp)
 have hkw1 : Keeps w w1 := (((Keeps.refl w).alloc _).alloc _).trans hk1
 go_wp2_with fail
 refine (sameLists_yes _ _ m.Tables _ (at_.keep hkw1) (bt.keep hkw1)).mono ?_
 rintro e w2 ⟨rfl, hk2⟩
 have r1 : w2.cell? ⟨w.heap.size, 1, none⟩ = some (.slice ao m.Funcs.length ac) := hk2.cell p1
 have r4 : w2.cell? ⟨w.heap.size, 4, none⟩ = some (.slice co m.Lines.length cc) := hk2.cell p4
 have s1 : w2.cell? ⟨w.heap.size + 1, 1, none⟩ = some (.slice bo m.Funcs.length bc) := hk2.cell q1
 have s4 : w2.cell? ⟨w.heap.size + 1, 4, none⟩ = some (.slice do_ m.Lines.length dc) := hk2.cell q4
 have hkw2 : Keeps w w2 := hkw1.trans hk2
 clear p1 p2 p4 q1 q2 q4 hk1 hk2 hkw1 ab ad at_ bb bd bt
 go_wp2_with fail
 go_loopw [5] (fun i wr => ∃ k : Nat, k ≤ m.Funcs.length ∧ i = .int .i64 k ∧ Keeps w2 wr) (fun i _ => m.Funcs.length - (intOf i).toNat)
 case atStart => exact ⟨0, Nat.zero_le _, rfl, Keeps.refl _⟩
 case round =>
  obtain ⟨k, hk, rfl, hkeep⟩ := hrel
  have fA1 := hkeep.cell r1
  have fA4 := hkeep.cell r4
  have fB1 := hkeep.cell s1
  have fB4 := hkeep.cell s4
  by_cases hlt : k < m.Funcs.length
  ·obtain ⟨ab, aff, rfl, acc⟩ := af3 (by omega)
   obtain ⟨bb, bff, rfl, bcc⟩ := bf3 (by omega)
   have hkk := hkw2.trans hkeep
   have c0 : wr.cell? ⟨ab, aff + k * 3, none⟩ = some (.string (nth m.Funcs k).Name) := hkk.cell (acc k 0 hlt (by omega))
   have c1 : wr.cell? ⟨ab, aff + k * 3 + 1, none⟩ = some (.int .i64 (nth m.Funcs k).Start) := hkk.cell (acc k 1 hlt (by omega))
   have c2 : wr.cell? ⟨ab, aff + k * 3 + 2, none⟩ = some (.int .i64 (nth m.Funcs k).Size) := hkk.cell (acc k 2 hlt (by omega))
   have d0 : wr.cell? ⟨bb, bff + k * 3, none⟩ = some (.string (nth m.Funcs k).Name) := hkk.cell (bcc k 0 hlt (by omega))
   have d1 : wr.cell? ⟨bb, bff + k * 3 + 1, none⟩ = some (.int .i64 (nth m.Funcs k).Start) := hkk.cell (bcc k 1 hlt (by omega))
   have d2 : wr.cell? ⟨bb, bff + k * 3 + 2, none⟩ = some (.int .i64 (nth m.Funcs k).Size) := hkk.cell (bcc k 2 hlt (by omega))
   clear af3 bf3 al3 bl3 acc bcc r1 r4 s1 s4
   go_wp2
   go_quiet (fail)
   go_wp2
   go_roundw
   case rel => exact ⟨k + 1, by omega, by go_num, hkeep.drewN _⟩
   case measure => simp [intOf]; omega
  ·clear af3 bf3 r1 r4 s1 s4
   have hkk := hkw2.trans hkeep
   obtain ⟨wo, rfl⟩ : ∃ wo : World, wo = wr := ⟨_, rfl⟩
   go_wp2
   go_loopw [6] (fun i wx => ∃ j : Nat, j ≤ m.Lines.length ∧ i = .int .i64 j ∧ Keeps wo wx) (fun i _ => m.Lines.length - (intOf i).toNat)
   case atStart => exact ⟨0, Nat.zero_le _, rfl, Keeps.refl _⟩
   case round =>
    obtain ⟨j, hj, rfl, hkx⟩ := hrel
    have x4 := hkx.cell fA4
    have y4 := hkx.cell fB4
    by_cases hlt' : j < m.Lines.length
    ·obtain ⟨ab, aff, rfl, acc⟩ := al3 (by omega)
     obtain ⟨bb, bff, rfl, bcc⟩ := bl3 (by omega)
     have hkz := hkk.trans hkx
     have c0 : wr.cell? ⟨ab, aff + j * 2, none⟩ = some (.int .i64 (nth m.Lines j).At) := hkz.cell (acc j 0 hlt' (by omega))
     have c1 : wr.cell? ⟨ab, aff + j * 2 + 1, none⟩ = some (.int .i64 (nth m.Lines j).N) := hkz.cell (acc j 1 hlt' (by omega))
     have d0 : wr.cell? ⟨bb, bff + j * 2, none⟩ = some (.int .i64 (nth m.Lines j).At) := hkz.cell (bcc j 0 hlt' (by omega))
     have d1 : wr.cell? ⟨bb, bff + j * 2 + 1, none⟩ = some (.int .i64 (nth m.Lines j).N) := hkz.cell (bcc j 1 hlt' (by omega))
     clear al3 bl3 acc bcc fA1 fA4 fB1 fB4
     go_wp2
     go_quiet (fail)
     go_wp2
     go_roundw
     case rel => exact ⟨j + 1, by omega, by go_num, hkx.drewN _⟩
     case measure => simp [intOf]; omega
    ·clear al3 bl3 fA1 fA4 fB1 fB4
     go_wp2
     go_ret
     exact ⟨rfl, hkk.trans hkx⟩
end Go.Proofs.YtnekiooaobnndaaDoor
end
