/-
 (*finder).plain: an instruction as it stands in a block: a Call names its function's place.
-/
import Derived.Test.YtnekiooaobnndaaDoorFlRec3
set_option linter.all false
namespace Go.Proofs.YtnekiooaobnndaaDoor
open Go.RowKit BH
set_option maxHeartbeats 1000000000
set_option maxRecDepth 100000
def icV (i : Ic) : Value := insV i.K i.D i.A i.B i.N i.Lg
theorem plain1_any {tp : Nat} {A N y z : Int} {s : ByteArray} {w : World} (h0 : w.cell? ⟨tp, 0, none⟩ = some (.int .i64 A)) (h6 : w.cell? ⟨tp, 6, none⟩ = some (.int .i64 N)) (hb : 0 ≤ A ∧ A ≤ 2000 ∧ -32768 ≤ N ∧ N ≤ 32767) :
  Calls Tryd.prog 72 #[.agg #[.string s, .int .i64 y, .int .i64 z], .pointer (some ⟨tp, 0, none⟩)] w fun e w' => e = .returned (.bool (decide (y = A + N))) ∧ Keeps w w' := by
 have hl := lt_of_cell h0
 have wAN : IntKind.i64.wrap (A + N) = A + N := by rw [IntKind.wrap_i64]; omega
 go_enter Tryd.func72, Tryd.ntmps72
 go_wp2_with fail
 go_ret
 exact ⟨rfl, (Keeps.refl _).alloc _⟩
theorem plain_any {m : Img} {xb : Nat} {v1 : Value} {s : Sp} {w : World} (h1 : w.cell? ⟨xb, 1, none⟩ = some v1) (hF : Funs w v1 m.Funcs) (hs : SpOk s) :
  Calls Tryd.prog 50 #[.pointer (some ⟨xb, 0, none⟩), .agg #[.int .i64 s.A, .int .i64 s.Z, .int .i64 s.I.K, .int .i64 s.I.D, .int .i64 s.I.A, .int .i64 s.I.B, .int .i64 s.I.N, .bool s.I.Lg]] w fun e w' => e = .returned (icV (plainI m s)) ∧ Keeps w w' := by
 obtain ⟨A, Z, ⟨K, D, A2, B, N, Lg⟩⟩ := s
 obtain ⟨a0, a1, zz0, zz1, n0, n1, k0, k1, knt⟩ := hs
 dsimp only at a0 a1 zz0 zz1 n0 n1 k0 k1 knt ⊢
 have hxl := lt_of_cell h1
 dsimp only at hxl
 have HF := Lib.hid hF
 obtain ⟨fo, fcap, rfl, -⟩ := hF
 obtain ⟨W, hW, hkW, hb3, hb4, hsW⟩ := two_blocks' w (.cells #[.int .i64 A, .int .i64 Z, .int .i64 K, .int .i64 D, .int .i64 A2, .int .i64 B, .int .i64 N, .bool Lg] 63) (.cells #[.int .i64 0, .int .i64 0, .int .i64 0, .int .i64 0, .int .i64 0, .bool false] 61)
 obtain ⟨b3, hb3e⟩ : ∃ b, b = w.heap.size := ⟨_, rfl⟩
 obtain ⟨b4, hb4e⟩ : ∃ b, b = w.heap.size + 1 := ⟨_, rfl⟩
 have hx1 := hkW.cell h1
 by_cases h23 : K = 23
 ·have t23 : (K == 23) = true := by simpa using h23
  obtain ⟨R, hR⟩ : ∃ r, r = fnAt m (A + N) := ⟨_, rfl⟩
  have hpl : plainI m ⟨A, Z, ⟨K, D, A2, B, N, Lg⟩⟩ = ⟨K, D, A2, B, R, Lg⟩ := by unfold plainI; rw [if_pos h23, hR]; rfl
  have hif : ∀ W', Keeps W W' → Calls Tryd.prog 71 #[.slice fo m.Funcs.length fcap, .func (.func 72) #[] #[.pointer (some ⟨w.heap.size, 0, none⟩)]] W' fun e w' => e = .returned (.int .i64 R) ∧ Keeps W' w' := fun W' hk' => by
   rw [hR]
   refine indexFunc_fun _ m.Funcs.length (fun i j => (nth m.Funcs i).c j) _ 72 _ W' (Arr.keep HF.out (hkW.trans hk')) (enters_of Tryd.func72 (by kernel_rfl) rfl) ?_
   intro W2 i hi hk2
   exact plain1_any ((hb3.keep (hk'.trans hk2)).cell rfl) ((hb3.keep (hk'.trans hk2)).cell rfl) ⟨a0, a1, n0, n1⟩
  rw [hpl]
  have HIF := Lib.hid hif
  have HW := Lib.hid hW
  have HB3 := Lib.hid hb3
  have HB4 := Lib.hid hb4
  have HKW := Lib.hid hkW
  clear h23 hR hpl hif hW hb3 hb4 h1 hkW hb3e hb4e
  go_enter Tryd.func50, Tryd.ntmps50
  go_upto_region 1 with fail
  rw [← HW.out]
  have c2 := HB3.out.cell (j := 2) rfl
  go_wp2_with (go_at_call 71; refine (HIF.out _ (by repeat (with_reducible (first | assumption | exact Keeps.refl _ | refine Keeps.alloc ?_ _ | refine Keeps.drew ?_ | refine Keeps.drewN ?_ _)))).mono ?_; rintro e wa ⟨rfl, hka⟩; have hB3 := HB3.out.keep hka; have hB4 := HB4.out.keep hka; have d0 := hB3.cell (j := 0) rfl; have d1 := hB3.cell (j := 1) rfl; have d2 := hB3.cell (j := 2) rfl; have d3 := hB3.cell (j := 3) rfl; have d4 := hB3.cell (j := 4) rfl; have d5 := hB3.cell (j := 5) rfl; have d6 := hB3.cell (j := 6) rfl; have d7 := hB3.cell (j := 7) rfl; have f6 := hB3.thawed 6; have l3 := hB3.lt; have l4 := hB4.lt; have e0 := hB4.cell (j := 0) rfl; have e1 := hB4.cell (j := 1) rfl; have e2 := hB4.cell (j := 2) rfl; have e3 := hB4.cell (j := 3) rfl; have e4 := hB4.cell (j := 4) rfl; have e5 := hB4.cell (j := 5) rfl; have g0 := hB4.thawed 0; have g1 := hB4.thawed 1; have g2 := hB4.thawed 2; have g3 := hB4.thawed 3; have g4 := hB4.thawed 4; have g5 := hB4.thawed 5)
  refine bodyPost_ret (v := .agg #[.int .i64 K, .int .i64 D, .int .i64 A2, .int .i64 B, .int .i64 R, .bool Lg]) (by simp [results, Tryd.results50, go_sem, *]) rfl ⟨rfl, ?_⟩
  repeat (refine Keeps.setCell ?_ (by dsimp only; omega) _)
  exact HKW.out.trans hka
 ·have t23 : (K == 23) = false := by simpa using h23
  have hpl : plainI m ⟨A, Z, ⟨K, D, A2, B, N, Lg⟩⟩ = ⟨K, D, A2, B, N, Lg⟩ := by unfold plainI; rw [if_neg h23]; rfl
  rw [hpl]
  have HW := Lib.hid hW
  have HB3 := Lib.hid hb3
  have HB4 := Lib.hid hb4
  have HKW := Lib.hid hkW
  clear h23 hpl hW hb3 hb4 h1 hkW hb3e hb4e
  go_enter Tryd.func50, Tryd.ntmps50
  go_upto_region 1 with fail
  rw [← HW.out]
  have hB3 := HB3.out
  have hB4 := HB4.out
  have d0 := hB3.cell (j := 0) rfl
  have d1 := hB3.cell (j := 1) rfl
  have d2 := hB3.cell (j := 2) rfl
  have d3 := hB3.cell (j := 3) rfl
  have d4 := hB3.cell (j := 4) rfl
  have d5 := hB3.cell (j := 5) rfl
  have d6 := hB3.cell (j := 6) rfl
  have d7 := hB3.cell (j := 7) rfl
  have l3 := hB3.lt
  have l4 := hB4.lt
  have e0 := hB4.cell (j := 0) rfl
  have e1 := hB4.cell (j := 1) rfl
  have e2 := hB4.cell (j := 2) rfl
  have e3 := hB4.cell (j := 3) rfl
  have e4 := hB4.cell (j := 4) rfl
  have e5 := hB4.cell (j := 5) rfl
  have g0 := hB4.thawed 0
  have g1 := hB4.thawed 1
  have g2 := hB4.thawed 2
  have g3 := hB4.thawed 3
  have g4 := hB4.thawed 4
  have g5 := hB4.thawed 5
  go_wp2_with fail
  refine bodyPost_ret (v := .agg #[.int .i64 K, .int .i64 D, .int .i64 A2, .int .i64 B, .int .i64 N, .bool Lg]) (by simp [results, Tryd.results50, go_sem, *]) rfl ⟨rfl, ?_⟩
  repeat (refine Keeps.setCell ?_ (by dsimp only; omega) _)
  exact HKW.out
end Go.Proofs.YtnekiooaobnndaaDoor
