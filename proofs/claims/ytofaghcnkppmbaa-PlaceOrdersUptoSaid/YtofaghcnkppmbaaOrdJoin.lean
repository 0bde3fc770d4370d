/-
  The method join of place.chains: what it does to chains in memory.
-/
import Derived.Test.YtofaghcnkppmbaaRegTail
import Derived.Test.YtofaghcnkppmbaaOrdSt
import Derived.Test.YtofaghcnkppmbaaOnto
import Derived.Test.YtofaghcnkppmbaaTypes
import Derived.Test.YtofaghcnkppmbaaChecked
import Derived.Lib.Hide
import Derived.Deep.DeepCutAuto
import Derived.Deep.RegionLaw
import Derived.Deep.RegionWith
import Derived.Deep.RegionHeld3
import Derived.Deep.QuietTactic
import Derived.BigQuiet
import Derived.Deep.CutBlock
namespace Go.Proofs.Ytofaghcnkppmbaa
open Go.RowKit BH
set_option maxHeartbeats 1000000000
set_option maxRecDepth 100000
/-- the chains are joined, in memory -/
def Joined (w : World) (B g : Nat) (vo vl : Value) (vs : List Sle) (s' : Cs) (w' : World) : Prop :=
  ∃ vs', ChSt w' B g 41 3 24 vo vl vs' s' ∧ Only (ChF vo vl vs) w w' ∧ ∀ b, ChF vo vl vs' b → ChF vo vl vs b ∨ w.heap.size ≤ b
theorem Joined.same {w w' : World} {B g : Nat} {vo vl : Value} {vs : List Sle} {s : Cs} (h : ChSt w B g 41 3 24 vo vl vs s) (hk : Keeps w w') : Joined w B g vo vl vs s w' :=
  ⟨vs, h.keep hk, hk.only _, fun _ hb => Or.inl hb⟩
theorem join_any {B g : Nat} {s : Cs} {n : Nat} {vo vl : Value} {vs : List Sle} {a b : Int} {w : World} (hst : ChSt w B g 41 3 24 vo vl vs s) (hinv : CInv n s) (hn : n ≤ 1099511627776) (ha : 0 ≤ a ∧ a < n) (hb : 0 ≤ b ∧ b < n) (_hB : B ≤ w.heap.size)
    (hlen : ∀ x, x < n → (nth s.ls x).length ≤ n) :
    Calls Try.prog 16 #[.pointer (some ⟨g, 0, none⟩), .int .i64 a, .int .i64 b] w fun e w' => e = .returned (.tuple #[]) ∧ Joined w B g vo vl vs (joinC s a b) w' := by
  obtain ⟨x, ex, hx, mx⟩ := hinv.at ha.1 ha.2
  obtain ⟨y, ey, hy, my⟩ := hinv.at hb.1 hb.2
  obtain ⟨A, hA⟩ : ∃ A : Nat, a = A := ⟨a.toNat, by omega⟩
  obtain ⟨C, hC⟩ : ∃ C : Nat, b = C := ⟨b.toNat, by omega⟩
  subst hA hC
  rw [Int.toNat_natCast] at ex ey
  have hAn : A < n := by omega
  have hCn : C < n := by omega
  have lo := hinv.lo
  have ll := hinv.ll
  have vl' := hst.len
  have g0 := hst.blk.cell (j := 0) rfl
  have g1 := hst.blk.cell (j := 1) rfl
  have hgl := hst.blk.lt
  obtain ⟨qo, co, eo, bo1, bo2, bo3, bo4, oc, of⟩ := own_read1 (h := fun x : Int => Value.int .i64 x) hst.oo (by omega)
  obtain ⟨ql, cl, el, bl1, bl2, bl3, bl4, lc, lf⟩ := own_read1 (h := fun z : Sle => Value.slice z.a z.n z.c) hst.ol (by omega)
  have nx : nth s.ls x ≠ [] := fun e => by rw [e] at mx; cases mx
  have ny : nth s.ls y ≠ [] := fun e => by rw [e] at my; cases my
  have rx := own_read1 (h := fun x : Int => Value.int .i64 x) (hst.row x (by omega)) (List.length_pos_iff.2 nx)
  have ry := own_read1 (h := fun x : Int => Value.int .i64 x) (hst.row y (by omega)) (List.length_pos_iff.2 ny)
  obtain ⟨px, cx, vx, bx1, bx2, bx3, bx4, xc, xf⟩ := rx
  obtain ⟨py, cy, vy, by1, by2, by3, by4, yc, yf⟩ := ry
  have hLx := hlen x hx
  have hLy := hlen y hy
  have o1 := oc A (by omega)
  have o2 := oc C (by omega)
  rw [ex] at o1
  rw [ey] at o2
  have l1 := lc x (by omega)
  have l2 := lc y (by omega)
  rw [show Value.slice (nth vs x).a (nth vs x).n (nth vs x).c = (nth vs x).v from rfl, vx] at l1
  rw [show Value.slice (nth vs y).a (nth vs y).n (nth vs y).c = (nth vs y).v from rfl, vy] at l2
  obtain ⟨mlx, hmlx⟩ : ∃ m, (nth s.ls x).length = m + 1 := ⟨(nth s.ls x).length - 1, by have := List.length_pos_iff.2 nx; omega⟩
  obtain ⟨mly, hmly⟩ : ∃ m, (nth s.ls y).length = m + 1 := ⟨(nth s.ls y).length - 1, by have := List.length_pos_iff.2 ny; omega⟩
  have x1 := xc mlx (by omega)
  have y1 := yc 0 (by omega)
  obtain ⟨La, hLa⟩ : ∃ z, z = nth (nth s.ls x) mlx := ⟨_, rfl⟩
  obtain ⟨Hd, hHd⟩ : ∃ z, z = nth (nth s.ls y) 0 := ⟨_, rfl⟩
  rw [← hLa] at x1
  rw [← hHd] at y1
  have eLa : laC (nth s.ls x) = La := by rw [hLa]; unfold laC; rw [hmlx]; rfl
  have eHd : hdC (nth s.ls y) = Hd := hHd.symm
  have hj : joins s A C = (!(decide (x = y) || decide (¬ La = A) || decide (¬ Hd = C))) := by
    unfold joins
    rw [Int.toNat_natCast, Int.toNat_natCast, ex, ey, Int.toNat_natCast, Int.toNat_natCast, eLa, eHd]
    congr 3
    exact decide_eq_decide.2 (by omega)
  have hjf : joins s A C = false → joinC s A C = s := fun h => by unfold joinC; rw [if_neg (by rw [h]; exact Bool.false_ne_true)]
  rw [hmlx] at l1
  rw [hmly] at l2
  have xb : (x : Int) < (vs.length : Int) := by omega
  have yb : (y : Int) < (vs.length : Int) := by omega
  have Ab : (A : Int) < (s.of.length : Int) := by omega
  have Cb : (C : Int) < (s.of.length : Int) := by omega
  obtain ⟨Lx, hLX⟩ : ∃ L : Nat, L = mlx + 1 := ⟨_, rfl⟩
  obtain ⟨Ly, hLY⟩ : ∃ L : Nat, L = mly + 1 := ⟨_, rfl⟩
  rw [← hLX] at l1
  rw [← hLY] at l2
  have wl : IntKind.i64.wrap ((Lx : Int) - 1) = (mlx : Int) := by rw [IntKind.wrap_i64]; omega
  have wlt : (mlx : Int) < (Lx : Int) := by omega
  have wlt2 : (0 : Int) < (Ly : Int) := by omega
  have hLy0 : 0 < Ly := by omega
  have hLxn : Lx ≤ n := by omega
  have hLyn : Ly ≤ n := by omega
  have HLX := Lib.hid hLX
  have HLY := Lib.hid hLY
  have HYL : Hid ((nth s.ls y).length = Ly) := Lib.hid (hmly.trans hLY.symm)
  have HXL : Hid ((nth s.ls x).length = Lx) := Lib.hid (hmlx.trans hLX.symm)
  clear hLX hLY
  have hyl : mly + 1 ≤ n := by omega
  have hxl : mlx + 1 ≤ n := by omega
  have HST := Lib.hid hst
  have HLA := Lib.hid hLa
  have HHD := Lib.hid hHd
  have HMX := Lib.hid hmlx
  have HMY := Lib.hid hmly
  have HVX := Lib.hid vx
  have HVY := Lib.hid vy
  have HEO := Lib.hid eo
  have HEL := Lib.hid el
  have HEX := Lib.hid ex
  have HEY := Lib.hid ey
  have HLO := Lib.hid lo
  have HLL := Lib.hid ll
  have HVL := Lib.hid vl'
  have HJ := Lib.hid hj
  have HJF := Lib.hid hjf
  rw [eo] at g0
  rw [el] at g1
  clear hLa hHd hmlx hmly vx vy ex ey lo ll vl' hj hjf hst eLa eHd oc lc xc yc mx my hlen hLx hLy
  go_enter Try.func16, Try.ntmps16
  go_wp2_with fail
  go_quiet (fail)
  go_wp2_with fail
  by_cases txy : x = y
  · have t1 : ((x : Int) == (y : Int)) = true := by simp; omega
    have hf : joinC s A C = s := HJF.out (by rw [HJ.out]; simp [txy])
    clear txy
    go_quiet (fail)
    go_wp2_with fail
    refine bodyPost_ret (results_none rfl _ _ _) rfl ?_
    exact ⟨rfl, by rw [hf]; exact Joined.same HST.out (by repeat (with_reducible (first | assumption | exact Keeps.refl _ | refine Keeps.alloc ?_ _ | refine Keeps.drew ?_ | refine Keeps.drewN ?_ _)))⟩
  · have t1 : ((x : Int) == (y : Int)) = false := by simp; omega
    by_cases tla : La = A
    · have t2 : (La != (A : Int)) = false := by simpa using tla
      by_cases thd : Hd = C
      · have t3 : (Hd != (C : Int)) = false := by simpa using thd
        have hjt : joinC s A C = ⟨ofAll s.of x (nth s.ls y), (s.ls.set x (nth s.ls x ++ nth s.ls y)).set y []⟩ := by
          unfold joinC
          rw [if_pos (by rw [HJ.out]; simp [txy, tla, thd]), Int.toNat_natCast, Int.toNat_natCast, HEX.out, HEY.out, Int.toNat_natCast, Int.toNat_natCast]
        have HJT := Lib.hid hjt
        have HXY := Lib.hid txy
        clear txy tla thd hjt
        go_quiet (fail)
        go_wp2_with fail
        go_loopw [70] (fun s70 wr => ∃ i : Nat, i ≤ Ly ∧ s70 = .int .i64 i ∧ Hid (ChSt wr B g 41 3 24 vo vl vs ⟨ofAll s.of x ((nth s.ls y).take i), s.ls⟩) ∧ Hid (Only (ChF vo vl vs) w wr)) (fun s70 _ => Ly - (intOf s70).toNat)
        case atStart => exact ⟨0, Nat.zero_le _, rfl, Lib.hid (HST.out.keep (by repeat (with_reducible (first | assumption | exact Keeps.refl _ | refine Keeps.alloc ?_ _ | refine Keeps.drew ?_ | refine Keeps.drewN ?_ _)))), Lib.hid (Keeps.only (by repeat (with_reducible (first | assumption | exact Keeps.refl _ | refine Keeps.alloc ?_ _ | refine Keeps.drew ?_ | refine Keeps.drewN ?_ _))) _)⟩
        case round =>
          obtain ⟨i, hi, rfl, HC, HO⟩ := hrel
          have hrl := HC.out.blk.lt
          have r0 := HC.out.blk.cell (j := 0) rfl
          have r1 := HC.out.blk.cell (j := 1) rfl
          rw [HEO.out] at r0
          rw [HEL.out] at r1
          have ry := own_read1 (h := fun x : Int => Value.int .i64 x) (HC.out.row y (by have := HLL.out; have := HVL.out; omega)) (List.length_pos_iff.2 ny)
          obtain ⟨py', cy', vy', -, -, -, by4', yc', -⟩ := ry
          rw [HVY.out] at vy'
          obtain ⟨rfl, rfl⟩ : py' = py ∧ cy' = cy := by injection vy' with e1 e2 e3; injection e1 with e1; injection e1 with e1; exact ⟨e1.symm, e3.symm⟩
          by_cases hlt : i < Ly
          · have hltz : (i : Int) < (Ly : Int) := by omega
            have cy0 := yc' i (by rw [HYL.out]; exact hlt)
            obtain ⟨m, hm⟩ : ∃ m, m = nth (nth s.ls y) i := ⟨_, rfl⟩
            have hmb := hinv.bnd y hy m (by rw [hm]; exact nth_in (by rw [HYL.out]; exact hlt))
            rw [← hm] at cy0
            obtain ⟨M, hM⟩ : ∃ M : Nat, m = M := ⟨m.toNat, by omega⟩
            subst hM
            have hMn : M < s.of.length := by have := HLO.out; omega
            have hst2 := HC.out.setOf (m := M) (by rw [ofAll_len]; exact hMn) x
            obtain ⟨qo', co', eo', -, -, bo4', hqg, ocl, fz, hst3⟩ := hst2
            have ocm := ocl M (by rw [ofAll_len]; exact hMn)
            dsimp only at ocm
            generalize nth (ofAll s.of x ((nth s.ls y).take i)) M = zz at ocm
            rw [HEO.out] at eo'
            obtain ⟨rfl, rfl⟩ : qo' = qo ∧ co' = co := by injection eo' with e1 e2 e3; injection e1 with e1; injection e1 with e1; exact ⟨e1.symm, e3.symm⟩
            have hMz : (M : Int) < (s.of.length : Int) := by omega
            have eset : (ofAll s.of x ((nth s.ls y).take i)).set M x = ofAll s.of x ((nth s.ls y).take (i + 1)) := by
              rw [take_succ_nth _ _ (by rw [HYL.out]; exact hlt), ofAll_snoc, ← hm, Int.toNat_natCast]
            dsimp only at hst3
            rw [eset] at hst3
            clear eset
            have HS3 := Lib.hid hst3
            have HMM := Lib.hid hm
            clear hst3 hm yc' vy' eo' ocl
            go_wp2_with fail
            go_roundw
            case rel => exact ⟨i + 1, by omega, by go_num, HS3, Lib.hid (HO.out.trans (Only.set _ _ _ _ (Or.inl (by rw [HEO.out]; rfl))))⟩
            case measure => simp [intOf]; omega
          · obtain rfl : Ly = i := by omega
            rw [← HYL.out, List.take_length] at HC
            have hxv : x < vs.length := by have := HLL.out; have := HVL.out; omega
            have hyv : y < vs.length := by have := HLL.out; have := HVL.out; omega
            have lrd := own_read1 (h := fun z : Sle => Value.slice z.a z.n z.c) HC.out.ol (by omega)
            obtain ⟨ql', cl', el', -, -, -, bl4', lc', lf'⟩ := lrd
            rw [HEL.out] at el'
            obtain ⟨rfl, rfl⟩ : ql' = ql ∧ cl' = cl := by injection el' with e1 e2 e3; injection e1 with e1; injection e1 with e1; exact ⟨e1.symm, e3.symm⟩
            have m1 := lc' x hxv
            have m2 := lc' y hyv
            rw [show Value.slice (nth vs x).a (nth vs x).n (nth vs x).c = (nth vs x).v from rfl, HVX.out, HXL.out] at m1
            rw [show Value.slice (nth vs y).a (nth vs y).n (nth vs y).c = (nth vs y).v from rfl, HVY.out, HYL.out] at m2
            have rowx := HC.out.row x hxv
            have rowy := HC.out.row y hyv
            rw [HVX.out] at rowx
            rw [HVY.out] at rowy
            rw [HXL.out] at rowx
            rw [HYL.out] at rowy
            have HRX := Lib.hid rowx
            have HRY := Lib.hid rowy
            have hqlg : ¬ ql' = g := by have := HC.out.gB; omega
            have hgql : ¬ g = ql' := by have := HC.out.gB; omega
            have hszB : B ≤ wr.heap.size := by have := HO.out.size; omega
            clear lc' yc' el' vy' rowx rowy o1 o2 l1 l2 x1 y1 wl wlt wlt2 t1 t2 t3 Ab Cb of lf xf yf g0 g1 r0 bx1 bx2 bx3 bx4 by1 by2 by3 by4 by4' bo1 bo2 bo3 bo4 HJF HJ HLA HHD HMX HMY eo el
            go_wp2_with fail
            have r1' := r1
            refine wp_region_head_tail (S := fun w' => w'.cell? ⟨g, 1, none⟩ = some (.slice (some ⟨ql', 0, none⟩) vs.length cl') ∧ w'.cell? ⟨ql', x, none⟩ = some (.slice (some ⟨px, 0, none⟩) Lx cx) ∧ w'.cell? ⟨ql', y, none⟩ = some (.slice (some ⟨py', 0, none⟩) Ly cy')) 25 9 (v := .int .i64 (y : Int)) (by kernel_rfl) rfl (by kernel_rfl) (by kernel_rfl) (by kernel_rfl) (by decide) (fun _ _ _ h => h) (Or.inl ⟨by rfl, fun w => by rfl⟩) (by kernel_rfl) (by kernel_rfl) (by kernel_rfl) (by decide) (by kernel_rfl) ?hS (fun hHeld => ?_)
            case hS => exact ⟨by simpa using r1, by simpa using m1, by simpa using m2⟩
            simp only [List.take_succ_cons, List.take_zero, List.drop_succ_cons, List.drop_zero, List.getElem_toArray, List.getElem_cons_succ, List.getElem_cons_zero]
            try simp only [Act.put, List.setIfInBounds_toArray, List.set_cons_zero, List.set_cons_succ]
            refine wpAnyH_take (i := 0) (oi := ?o1) (v := ?v1) ?h1 ?a1 ?b1 ?c1 ?q1 (Or.inl ⟨?w1, ?y1⟩) hHeld ?r1
            case h1 => (simp only [List.getElem?_toArray, List.getElem?_cons_zero]; try rfl)
            case a1 => kernel_rfl
            case b1 => kernel_rfl
            case c1 => kernel_rfl
            case q1 => exact fun _ _ _ h => h
            case w1 => rfl
            case y1 =>
              intro w hSw
              (try dsimp only at hSw)
              go_simp
              try with_reducible rfl
            try simp only [Act.put, List.setIfInBounds_toArray, List.set_cons_zero, List.set_cons_succ]
            refine wpAnyH_take (i := 1) (oi := ?o2) (v := ?v2) ?h2 ?a2 ?b2 ?c2 ?q2 (Or.inl ⟨?w2, ?y2⟩) hHeld ?r2
            case h2 => (simp only [List.getElem?_toArray, List.getElem?_cons_zero, List.getElem?_cons_succ]; try rfl)
            case a2 => kernel_rfl
            case b2 => kernel_rfl
            case c2 => kernel_rfl
            case q2 => exact fun _ _ _ h => h
            case w2 => rfl
            case y2 =>
              intro w hSw
              (try dsimp only at hSw)
              go_simp
              try with_reducible rfl
            try simp only [Act.put, List.setIfInBounds_toArray, List.set_cons_zero, List.set_cons_succ]
            refine wpAnyH_take (i := 2) (oi := ?o3) (v := ?v3) ?h3 ?a3 ?b3 ?c3 ?q3 (Or.inl ⟨?w3, ?y3⟩) hHeld ?r3
            case h3 => (simp only [List.getElem?_toArray, List.getElem?_cons_zero, List.getElem?_cons_succ]; try rfl)
            case a3 => kernel_rfl
            case b3 => kernel_rfl
            case c3 => kernel_rfl
            case q3 => exact fun _ _ _ h => h
            case w3 => rfl
            case y3 =>
              intro w hSw
              (try dsimp only at hSw)
              go_simp
              try with_reducible rfl
            try simp only [Act.put, List.setIfInBounds_toArray, List.set_cons_zero, List.set_cons_succ]
            refine wpAnyH_take (i := 3) (oi := ?o4) (v := ?v4) ?h4 ?a4 ?b4 ?c4 ?q4 (Or.inl ⟨?w4, ?y4⟩) hHeld ?r4
            case h4 => (simp only [List.getElem?_toArray, List.getElem?_cons_zero, List.getElem?_cons_succ]; try rfl)
            case a4 => kernel_rfl
            case b4 => kernel_rfl
            case c4 => kernel_rfl
            case q4 => exact fun _ _ _ h => h
            case w4 => rfl
            case y4 =>
              intro w hSw
              (try dsimp only at hSw)
              go_simp
              try with_reducible rfl
            try simp only [Act.put, List.setIfInBounds_toArray, List.set_cons_zero, List.set_cons_succ]
            refine wpAnyH_take (i := 4) (oi := ?o5) (v := ?v5) ?h5 ?a5 ?b5 ?c5 ?q5 (Or.inl ⟨?w5, ?y5⟩) hHeld ?r5
            case h5 => (simp only [List.getElem?_toArray, List.getElem?_cons_zero, List.getElem?_cons_succ]; try rfl)
            case a5 => kernel_rfl
            case b5 => kernel_rfl
            case c5 => kernel_rfl
            case q5 => exact fun _ _ _ h => h
            case w5 => rfl
            case y5 =>
              intro w hSw
              (try dsimp only at hSw)
              go_simp
              try with_reducible rfl
            try simp only [Act.put, List.setIfInBounds_toArray, List.set_cons_zero, List.set_cons_succ]
            refine wpAnyH_take (i := 5) (oi := ?o6) (v := ?v6) ?h6 ?a6 ?b6 ?c6 ?q6 (Or.inl ⟨?w6, ?y6⟩) hHeld ?r6
            case h6 => (simp only [List.getElem?_toArray, List.getElem?_cons_zero, List.getElem?_cons_succ]; try rfl)
            case a6 => kernel_rfl
            case b6 => kernel_rfl
            case c6 => kernel_rfl
            case q6 => exact fun _ _ _ h => h
            case w6 => rfl
            case y6 =>
              intro w hSw
              (try dsimp only at hSw)
              go_simp
              try with_reducible rfl
            try simp only [Act.put, List.setIfInBounds_toArray, List.set_cons_zero, List.set_cons_succ]
            refine wpAnyH_take (i := 6) (oi := ?o7) (v := ?v7) ?h7 ?a7 ?b7 ?c7 ?q7 (Or.inl ⟨?w7, ?y7⟩) hHeld ?r7
            case h7 => (simp only [List.getElem?_toArray, List.getElem?_cons_zero, List.getElem?_cons_succ]; try rfl)
            case a7 => kernel_rfl
            case b7 => kernel_rfl
            case c7 => kernel_rfl
            case q7 => exact fun _ _ _ h => h
            case w7 => rfl
            case y7 =>
              intro w hSw
              (try dsimp only at hSw)
              go_simp
              try with_reducible rfl
            try simp only [Act.put, List.setIfInBounds_toArray, List.set_cons_zero, List.set_cons_succ]
            refine wpAnyH_take (i := 7) (oi := ?o8) (v := ?v8) ?h8 ?a8 ?b8 ?c8 ?q8 (Or.inl ⟨?w8, ?y8⟩) hHeld ?r8
            case h8 => (simp only [List.getElem?_toArray, List.getElem?_cons_zero, List.getElem?_cons_succ]; try rfl)
            case a8 => kernel_rfl
            case b8 => kernel_rfl
            case c8 => kernel_rfl
            case q8 => exact fun _ _ _ h => h
            case w8 => rfl
            case y8 =>
              intro w hSw
              (try dsimp only at hSw)
              go_simp
              try with_reducible rfl
            try simp only [Act.put, List.setIfInBounds_toArray, List.set_cons_zero, List.set_cons_succ]
            refine wpAnyH_take (i := 8) (oi := ?o9) (v := ?v9) ?h9 ?a9 ?b9 ?c9 ?q9 (Or.inl ⟨?w9, ?y9⟩) hHeld ?r9
            case h9 => (simp only [List.getElem?_toArray, List.getElem?_cons_zero, List.getElem?_cons_succ]; try rfl)
            case a9 => kernel_rfl
            case b9 => kernel_rfl
            case c9 => kernel_rfl
            case q9 => exact fun _ _ _ h => h
            case w9 => rfl
            case y9 =>
              intro w hSw
              (try dsimp only at hSw)
              go_simp
              try with_reducible rfl
            try simp only [Act.put, List.setIfInBounds_toArray, List.set_cons_zero, List.set_cons_succ]
            refine wpAnyH_take (i := 10) (oi := ?o10) (v := ?v10) ?h10 ?a10 ?b10 ?c10 ?q10 (Or.inl ⟨?w10, ?y10⟩) hHeld ?r10
            case h10 => (simp only [List.getElem?_toArray, List.getElem?_cons_zero, List.getElem?_cons_succ]; try rfl)
            case a10 => kernel_rfl
            case b10 => kernel_rfl
            case c10 => kernel_rfl
            case q10 => exact fun _ _ _ h => h
            case w10 => rfl
            case y10 =>
              intro w hSw
              (try dsimp only at hSw)
              go_simp
              try with_reducible rfl
            try simp only [Act.put, List.setIfInBounds_toArray, List.set_cons_zero, List.set_cons_succ]
            refine wpAnyH_take (i := 11) (oi := ?o11) (v := ?v11) ?h11 ?a11 ?b11 ?c11 ?q11 (Or.inl ⟨?w11, ?y11⟩) hHeld ?r11
            case h11 => (simp only [List.getElem?_toArray, List.getElem?_cons_zero, List.getElem?_cons_succ]; try rfl)
            case a11 => kernel_rfl
            case b11 => kernel_rfl
            case c11 => kernel_rfl
            case q11 => exact fun _ _ _ h => h
            case w11 => rfl
            case y11 =>
              intro w hSw
              (try dsimp only at hSw)
              go_simp
              try with_reducible rfl
            try simp only [Act.put, List.setIfInBounds_toArray, List.set_cons_zero, List.set_cons_succ]
            refine wpAnyH_take (i := 12) (oi := ?o12) (v := ?v12) ?h12 ?a12 ?b12 ?c12 ?q12 (Or.inl ⟨?w12, ?y12⟩) hHeld ?r12
            case h12 => (simp only [List.getElem?_toArray, List.getElem?_cons_zero, List.getElem?_cons_succ]; try rfl)
            case a12 => kernel_rfl
            case b12 => kernel_rfl
            case c12 => kernel_rfl
            case q12 => exact fun _ _ _ h => h
            case w12 => rfl
            case y12 =>
              intro w hSw
              (try dsimp only at hSw)
              go_simp
              try with_reducible rfl
            try simp only [Act.put, List.setIfInBounds_toArray, List.set_cons_zero, List.set_cons_succ]
            refine wpAnyH_take (i := 13) (oi := ?o13) (v := ?v13) ?h13 ?a13 ?b13 ?c13 ?q13 (Or.inl ⟨?w13, ?y13⟩) hHeld ?r13
            case h13 => (simp only [List.getElem?_toArray, List.getElem?_cons_zero, List.getElem?_cons_succ]; try rfl)
            case a13 => kernel_rfl
            case b13 => kernel_rfl
            case c13 => kernel_rfl
            case q13 => exact fun _ _ _ h => h
            case w13 => rfl
            case y13 =>
              intro w hSw
              (try dsimp only at hSw)
              go_simp
              try with_reducible rfl
            try simp only [Act.put, List.setIfInBounds_toArray, List.set_cons_zero, List.set_cons_succ]
            refine wpAnyH_take (i := 14) (oi := ?o14) (v := ?v14) ?h14 ?a14 ?b14 ?c14 ?q14 (Or.inl ⟨?w14, ?y14⟩) hHeld ?r14
            case h14 => (simp only [List.getElem?_toArray, List.getElem?_cons_zero, List.getElem?_cons_succ]; try rfl)
            case a14 => kernel_rfl
            case b14 => kernel_rfl
            case c14 => kernel_rfl
            case q14 => exact fun _ _ _ h => h
            case w14 => rfl
            case y14 =>
              intro w hSw
              (try dsimp only at hSw)
              go_simp
              try with_reducible rfl
            try simp only [Act.put, List.setIfInBounds_toArray, List.set_cons_zero, List.set_cons_succ]
            refine wpAnyH_take (i := 15) (oi := ?o15) (v := ?v15) ?h15 ?a15 ?b15 ?c15 ?q15 (Or.inl ⟨?w15, ?y15⟩) hHeld ?r15
            case h15 => (simp only [List.getElem?_toArray, List.getElem?_cons_zero, List.getElem?_cons_succ]; try rfl)
            case a15 => kernel_rfl
            case b15 => kernel_rfl
            case c15 => kernel_rfl
            case q15 => exact fun _ _ _ h => h
            case w15 => rfl
            case y15 =>
              intro w hSw
              (try dsimp only at hSw)
              go_simp
              try with_reducible rfl
            try simp only [Act.put, List.setIfInBounds_toArray, List.set_cons_zero, List.set_cons_succ]
            refine wpAnyH_take (i := 16) (oi := ?o16) (v := ?v16) ?h16 ?a16 ?b16 ?c16 ?q16 (Or.inl ⟨?w16, ?y16⟩) hHeld ?r16
            case h16 => (simp only [List.getElem?_toArray, List.getElem?_cons_zero, List.getElem?_cons_succ]; try rfl)
            case a16 => kernel_rfl
            case b16 => kernel_rfl
            case c16 => kernel_rfl
            case q16 => exact fun _ _ _ h => h
            case w16 => rfl
            case y16 =>
              intro w hSw
              (try dsimp only at hSw)
              go_simp
              try with_reducible rfl
            try simp only [Act.put, List.setIfInBounds_toArray, List.set_cons_zero, List.set_cons_succ]
            refine wpAnyH_take (i := 17) (oi := ?o17) (v := ?v17) ?h17 ?a17 ?b17 ?c17 ?q17 (Or.inl ⟨?w17, ?y17⟩) hHeld ?r17
            case h17 => (simp only [List.getElem?_toArray, List.getElem?_cons_zero, List.getElem?_cons_succ]; try rfl)
            case a17 => kernel_rfl
            case b17 => kernel_rfl
            case c17 => kernel_rfl
            case q17 => exact fun _ _ _ h => h
            case w17 => rfl
            case y17 =>
              intro w hSw
              (try dsimp only at hSw)
              go_simp
              try with_reducible rfl
            try simp only [Act.put, List.setIfInBounds_toArray, List.set_cons_zero, List.set_cons_succ]
            refine wpAnyH_take (i := 18) (oi := ?o18) (v := ?v18) ?h18 ?a18 ?b18 ?c18 ?q18 (Or.inl ⟨?w18, ?y18⟩) hHeld ?r18
            case h18 => (simp only [List.getElem?_toArray, List.getElem?_cons_zero, List.getElem?_cons_succ]; try rfl)
            case a18 => kernel_rfl
            case b18 => kernel_rfl
            case c18 => kernel_rfl
            case q18 => exact fun _ _ _ h => h
            case w18 => rfl
            case y18 =>
              intro w hSw
              (try dsimp only at hSw)
              go_simp
              try with_reducible rfl
            try simp only [Act.put, List.setIfInBounds_toArray, List.set_cons_zero, List.set_cons_succ]
            refine wpAnyH_take (i := 19) (oi := ?o19) (v := ?v19) ?h19 ?a19 ?b19 ?c19 ?q19 (Or.inl ⟨?w19, ?y19⟩) hHeld ?r19
            case h19 => (simp only [List.getElem?_toArray, List.getElem?_cons_zero, List.getElem?_cons_succ]; try rfl)
            case a19 => kernel_rfl
            case b19 => kernel_rfl
            case c19 => kernel_rfl
            case q19 => exact fun _ _ _ h => h
            case w19 => rfl
            case y19 =>
              intro w hSw
              (try dsimp only at hSw)
              go_simp
              try with_reducible rfl
            try simp only [Act.put, List.setIfInBounds_toArray, List.set_cons_zero, List.set_cons_succ]
            refine wpAnyH_take (i := 20) (oi := ?o20) (v := ?v20) ?h20 ?a20 ?b20 ?c20 ?q20 (Or.inl ⟨?w20, ?y20⟩) hHeld ?r20
            case h20 => (simp only [List.getElem?_toArray, List.getElem?_cons_zero, List.getElem?_cons_succ]; try rfl)
            case a20 => kernel_rfl
            case b20 => kernel_rfl
            case c20 => kernel_rfl
            case q20 => exact fun _ _ _ h => h
            case w20 => rfl
            case y20 =>
              intro w hSw
              (try dsimp only at hSw)
              go_simp
              try with_reducible rfl
            try simp only [Act.put, List.setIfInBounds_toArray, List.set_cons_zero, List.set_cons_succ]
            refine wpAnyH_take (i := 21) (oi := ?o21) (v := ?v21) ?h21 ?a21 ?b21 ?c21 ?q21 (Or.inl ⟨?w21, ?y21⟩) hHeld ?r21
            case h21 => (simp only [List.getElem?_toArray, List.getElem?_cons_zero, List.getElem?_cons_succ]; try rfl)
            case a21 => kernel_rfl
            case b21 => kernel_rfl
            case c21 => kernel_rfl
            case q21 => exact fun _ _ _ h => h
            case w21 => rfl
            case y21 =>
              intro w hSw
              (try dsimp only at hSw)
              go_simp
              try with_reducible rfl
            try simp only [Act.put, List.setIfInBounds_toArray, List.set_cons_zero, List.set_cons_succ]
            refine wpAnyH_take (i := 22) (oi := ?o22) (v := ?v22) ?h22 ?a22 ?b22 ?c22 ?q22 (Or.inl ⟨?w22, ?y22⟩) hHeld ?r22
            case h22 => (simp only [List.getElem?_toArray, List.getElem?_cons_zero, List.getElem?_cons_succ]; try rfl)
            case a22 => kernel_rfl
            case b22 => kernel_rfl
            case c22 => kernel_rfl
            case q22 => exact fun _ _ _ h => h
            case w22 => rfl
            case y22 =>
              intro w hSw
              (try dsimp only at hSw)
              go_simp
              try with_reducible rfl
            try simp only [Act.put, List.setIfInBounds_toArray, List.set_cons_zero, List.set_cons_succ]
            refine wpAnyH_take (i := 23) (oi := ?o23) (v := ?v23) ?h23 ?a23 ?b23 ?c23 ?q23 (Or.inl ⟨?w23, ?y23⟩) hHeld ?r23
            case h23 => (simp only [List.getElem?_toArray, List.getElem?_cons_zero, List.getElem?_cons_succ]; try rfl)
            case a23 => kernel_rfl
            case b23 => kernel_rfl
            case c23 => kernel_rfl
            case q23 => exact fun _ _ _ h => h
            case w23 => rfl
            case y23 =>
              intro w hSw
              (try dsimp only at hSw)
              go_simp
              try with_reducible rfl
            try simp only [Act.put, List.setIfInBounds_toArray, List.set_cons_zero, List.set_cons_succ]
            refine wpAnyH_ready (rs := [24]) (by kernel_rfl) (by simp) ?_
            refine AllReadyH.cons (o := ?oc) ?hc ?sc ?mc
            case hc => (simp only [List.getElem?_toArray, List.getElem?_cons_zero, List.getElem?_cons_succ]; try rfl)
            case sc =>
              intro K hK
              refine step_onto (by rfl) (.tmp 98) (.tmp 105) 24 24 (by rfl) Try.underlying24 info_int (by rfl) (base := B) (f := ci) (l := nth s.ls x) (by rfl) (by exact HRX.out.keep (by repeat (with_reducible (first | assumption | exact Keeps.refl _ | refine Keeps.alloc ?_ _ | refine Keeps.drew ?_ | refine Keeps.drewN ?_ _ | refine Keeps.trans' ?_ (by assumption) (by assumption))))) (ys := nth s.ls y) (by rfl) (by exact src_arr (by decide) ci_len ci_one Try.underlying24 (ints_arr (HRY.out.keep (by repeat (with_reducible (first | assumption | exact Keeps.refl _ | refine Keeps.alloc ?_ _ | refine Keeps.drew ?_ | refine Keeps.drewN ?_ _ | refine Keeps.trans' ?_ (by assumption) (by assumption))))).ints)) (by rw [HXL.out, HYL.out]; omega) (by rw [HXL.out, HYL.out]; unfold maxLen; omega) (by first | omega | (simp only [sz_alloc]; omega) | (simp only [sz_drew]; omega) | (simp only [sz_alloc, sz_drew]; omega) | (simp only [sz_alloc, sz_drewN]; omega)) ?_
              intro v7 w7 hown7 hbel7 hgr7 hfr7
              obtain ⟨a7, c7, rfl⟩ := own_form' hown7
              have hnt := HC.out.joined (v7 := ⟨a7, (nth s.ls x ++ nth s.ls y).length, c7⟩) hxv hyv hown7 (by rw [show (nth vs x).v = _ from HVX.out]; exact hgr7) (by rw [show (nth vs x).v = _ from HVX.out]; exact hfr7) (by repeat (with_reducible (first | assumption | exact Keeps.refl _ | refine Keeps.alloc ?_ _ | refine Keeps.drew ?_ | refine Keeps.drewN ?_ _ | refine Keeps.trans' ?_ (by assumption) (by assumption))))
              obtain ⟨q7, cp7, e7, hq7, hbg7, hc7, hf7, hst7⟩ := hnt
              have hg71 := hbg7.cell (j := 1) rfl
              have hgl7 := hbg7.lt
              rw [HEL.out] at hg71
              rw [HEL.out] at e7
              obtain ⟨rfl, rfl⟩ : q7 = ql' ∧ cp7 = cl' := (by injection e7 with e1 e2 e3; injection e1 with e1; injection e1 with e1; exact ⟨e1.symm, e3.symm⟩)
              have hc7x := hc7 x hxv
              have hc7y := hc7 y hyv
              have hf7x := hf7 x
              have hf7y := hf7 y
              rw [List.length_append] at hst7
              have HST7 := Lib.hid hst7
              have txy := HXY.out
              have tyx : ¬ y = x := fun e => txy e.symm
              clear hbg7 hc7 hf7 hst7 e7 hown7 hbel7 hgr7 hfr7
              have hx7' := hc7x
              have hy7' := hc7y
              rw [show Value.slice (nth vs x).a (nth vs x).n (nth vs x).c = (nth vs x).v from rfl, HVX.out, HXL.out] at hx7'
              rw [show Value.slice (nth vs y).a (nth vs y).n (nth vs y).c = (nth vs y).v from rfl, HVY.out, HYL.out] at hy7'
              refine hK.out _ _ ?Sc ?Rc
              case Sc => exact ⟨hg71, hx7', hy7'⟩
              case Rc =>
                clear hHeld
                intro hHeld
                clear hK K hHeld hx7' hy7'
                try simp only [Act.put, List.setIfInBounds_toArray, List.set_cons_zero, List.set_cons_succ]
                refine wpAnyH_done (by kernel_rfl) ?_ _
                dsimp only [TailQ]
                go_wp2_with fail
                refine bodyPost_end (results_none rfl _ _ _) rfl ?_
                obtain ⟨s7, on7, nw7⟩ := HST7.out
                refine ⟨rfl, (vs.set x ⟨a7, (nth s.ls x).length + (nth s.ls y).length, c7⟩).set y ⟨none, 0, 0⟩, ?_, HO.out.trans on7, fun b hb => ?_⟩
                · rw [HJT.out]; exact s7
                · rcases nw7 b hb with p | p
                  · exact Or.inl p
                  · exact Or.inr (by have := HO.out.size; omega)
            exact AllReadyH.nil
      · have t3 : (Hd != (C : Int)) = true := by simpa using thd
        have hf : joinC s A C = s := HJF.out (by rw [HJ.out]; simp [thd])
        clear txy tla thd
        go_quiet (fail)
        go_wp2_with fail
        refine bodyPost_ret (results_none rfl _ _ _) rfl ?_
        exact ⟨rfl, by rw [hf]; exact Joined.same HST.out (by repeat (with_reducible (first | assumption | exact Keeps.refl _ | refine Keeps.alloc ?_ _ | refine Keeps.drew ?_ | refine Keeps.drewN ?_ _)))⟩
    · have t2 : (La != (A : Int)) = true := by simpa using tla
      have hf : joinC s A C = s := HJF.out (by rw [HJ.out]; simp [tla])
      clear txy tla
      go_quiet (fail)
      go_wp2_with fail
      refine bodyPost_ret (results_none rfl _ _ _) rfl ?_
      exact ⟨rfl, by rw [hf]; exact Joined.same HST.out (by repeat (with_reducible (first | assumption | exact Keeps.refl _ | refine Keeps.alloc ?_ _ | refine Keeps.drew ?_ | refine Keeps.drewN ?_ _)))⟩
end Go.Proofs.Ytofaghcnkppmbaa
