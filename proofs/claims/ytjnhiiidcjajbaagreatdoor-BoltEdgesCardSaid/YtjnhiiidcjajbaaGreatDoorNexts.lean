/-
  flow.Nexts: the places to which a block may go on, each once, ascending.
-/
import Derived.Test.YtjnhiiidcjajbaaGreatDoorFlowCore
import Derived.Test.YtjnhiiidcjajbaaGreatDoorSortC
import Derived.Test.YtjnhiiidcjajbaaGreatDoorUniq
import Derived.Test.YtjnhiiidcjajbaaGreatDoorOnto
import Derived.Test.YtjnhiiidcjajbaaGreatDoorIn
import Derived.Deep.DeepCutAuto
namespace Go.Proofs.YtjnhiiidcjajbaaGreatDoor
open Go.RowKit BH
set_option maxHeartbeats 1000000
set_option maxRecDepth 100000

/-- where a block goes on by a table -/
def tabOf (f : Fl) (b : Bk) : List Int :=
  if 0 < b.Code.length ∧ (nth b.Code (b.Code.length - 1)).K = 24 ∧ 0 ≤ (nth b.Code (b.Code.length - 1)).N ∧ (nth b.Code (b.Code.length - 1)).N < f.Tables.length then nth f.Tables (nth b.Code (b.Code.length - 1)).N.toNat else []
/-- the places, as they stand in the block -/
def nextsRaw (f : Fl) (b : Bk) : List Int := if b.Ends = 2 ∨ b.Ends = 3 then [b.To] else if b.Ends = 4 then [b.To, b.Else] else tabOf f b
/-- all lists of the flow are of a size that memory holds -/
def FlowSmall (f : Fl) : Prop := f.Blocks.length ≤ 140737488355328 ∧ f.Tables.length ≤ 140737488355328 ∧ ∀ t, t ∈ f.Tables → t.length * 8 ≤ 140737488355328

theorem nexts_bad (v : Value) (f : Fl) (n : Int) (w : World) (hv : FlowAt w v f) (hn : n < 0 ∨ (f.Blocks.length : Int) ≤ n) :
    Calls Tryz.prog 32 #[v, .int .i64 n] w fun e w' => e = .returned (.tuple #[.slice none 0 0, .int .i64 6]) ∧ Keeps w w' := by
  obtain ⟨v0, v1, v2, rfl, ⟨cv, av, lv, ⟨ao, cap, rfl, -⟩, -⟩, -, -⟩ := hv
  by_cases h0 : n < 0
  · have d0 : decide (n < 0) = true := by simpa using h0
    go_enter Tryz.func32, Tryz.ntmps32
    go_wp2
    go_ret2
    exact ⟨rfl, (Keeps.refl _).alloc _⟩
  · have d0 : decide (n < 0) = false := by simpa using h0
    have d1 : decide ((f.Blocks.length : Int) ≤ n) = true := by simp; omega
    go_enter Tryz.func32, Tryz.ntmps32
    go_wp2
    go_ret2
    exact ⟨rfl, (Keeps.refl _).alloc _⟩

/-- what lies behind the choice: the sort and the striking out -/
theorem sorted_uniq {base : Nat} {v : Value} {l : List Int} {w : World} (h : Own w base 3 1 ci v (l.mergeSort fun x y => decide (x ≤ y))) (hl : l.length ≤ 140737488355328) (hb : base ≤ w.heap.size) :
    Calls Tryz.prog 81 #[v] w fun e w' => ∃ v', e = .returned v' ∧ Ints w' v' (uniq l) ∧ Below base w w' :=
  (compact_own h (by rw [List.length_mergeSort]; omega) hb).mono fun _ _ ⟨v', he, ho, hk⟩ => ⟨v', he, ho.ints, hk⟩
/-- the ways where the block is there: up to the choice -/
theorem two_made (w : World) (o1 o2 : Obj) : ∃ W : World, W = (w.alloc o1).alloc o2 ∧ Keeps w W ∧ Blk W w.heap.size o1 ∧ Blk W (w.heap.size + 1) o2 ∧ W.heap.size = w.heap.size + 2 :=
  ⟨_, rfl, ((Keeps.refl w).alloc _).alloc _, (Blk.top _ _).keep ((Keeps.refl _).alloc _), Blk.top' _ _ (by rw [sz_alloc]), by rw [sz_alloc, sz_alloc]⟩
theorem nexts_falls (v : Value) (f : Fl) (k : Nat) (w : World) (hv : FlowAt w v f) (hk : k < f.Blocks.length) (hs : FlowSmall f) (h : (nth f.Blocks k).Ends = 2) :
    Calls Tryz.prog 32 #[v, .int .i64 k] w (GivesN (fun v' w' => Ints w' v' (uniq [(nth f.Blocks k).To])) 0 w) := by
  obtain ⟨v0, v1, v2, rfl, ⟨cv, av, lv, ⟨ao, cap, rfl, b1, b2, -, b3⟩, bi⟩, ⟨tv, ⟨tao, tcap, rfl, t1, t2, -, t3⟩, ti⟩, hF⟩ := hv
  obtain ⟨s1, s2, s3⟩ := hs
  obtain ⟨b, off, rfl, hc⟩ := b3 (by omega)
  have c0 : w.cell? ⟨b, off + k * 14, none⟩ = some (.int .i64 (nth f.Blocks k).Func) := hc k 0 hk (by omega)
  have c1 : w.cell? ⟨b, off + k * 14 + 1, none⟩ = some (.int .i64 (nth f.Blocks k).Start) := hc k 1 hk (by omega)
  have c2 : w.cell? ⟨b, off + k * 14 + 2, none⟩ = some (cv k) := hc k 2 hk (by omega)
  have c3 : w.cell? ⟨b, off + k * 14 + 3, none⟩ = some (av k) := hc k 3 hk (by omega)
  have c4 : w.cell? ⟨b, off + k * 14 + 4, none⟩ = some (.int .i64 (nth f.Blocks k).Last.K) := hc k 4 hk (by omega)
  have c5 : w.cell? ⟨b, off + k * 14 + 5, none⟩ = some (.int .i64 (nth f.Blocks k).Last.D) := hc k 5 hk (by omega)
  have c6 : w.cell? ⟨b, off + k * 14 + 6, none⟩ = some (.int .i64 (nth f.Blocks k).Last.A) := hc k 6 hk (by omega)
  have c7 : w.cell? ⟨b, off + k * 14 + 7, none⟩ = some (.int .i64 (nth f.Blocks k).Last.B) := hc k 7 hk (by omega)
  have c8 : w.cell? ⟨b, off + k * 14 + 8, none⟩ = some (.int .i64 (nth f.Blocks k).Last.N) := hc k 8 hk (by omega)
  have c9 : w.cell? ⟨b, off + k * 14 + 9, none⟩ = some (.bool (nth f.Blocks k).Last.Lg) := hc k 9 hk (by omega)
  have c10 : w.cell? ⟨b, off + k * 14 + 10, none⟩ = some (.int .i64 (nth f.Blocks k).Ends) := hc k 10 hk (by omega)
  have c11 : w.cell? ⟨b, off + k * 14 + 11, none⟩ = some (.int .i64 (nth f.Blocks k).To) := hc k 11 hk (by omega)
  have c12 : w.cell? ⟨b, off + k * 14 + 12, none⟩ = some (.int .i64 (nth f.Blocks k).Else) := hc k 12 hk (by omega)
  have c13 : w.cell? ⟨b, off + k * 14 + 13, none⟩ = some (lv k) := hc k 13 hk (by omega)
  obtain ⟨hCode, hAt, hLn⟩ := bi k hk
  obtain ⟨co, ccap, hvc⟩ := Arr.form hCode
  obtain ⟨aao, acap, hva⟩ := Arr.form hAt
  obtain ⟨lao, lcap, hvl⟩ := Arr.form hLn
  rw [hvc] at c2 hCode
  rw [hva] at c3
  rw [hvl] at c13
  clear hvc hva hvl hAt hLn
  have HH := Lib.hid h
  clear h
  generalize nth f.Blocks k = B at *
  generalize B.At.length = al at *
  generalize B.Lines.length = ll at *
  have d0 : decide ((k : Int) < 0) = false := by simp
  have d1 : decide (f.Blocks.length ≤ k) = false := by simpa using hk
  have hbw : b < w.heap.size := lt_of_cell c0
  obtain ⟨W, hW, hkW, hB1, hB2, hsz⟩ := two_made w (.cells #[.slice (some ⟨b, off, none⟩) f.Blocks.length cap, .slice tao f.Tables.length tcap, v2] 26) (.cells #[.int .i64 B.Func, .int .i64 B.Start, .slice co B.Code.length ccap, .slice aao al acap, .int .i64 B.Last.K, .int .i64 B.Last.D, .int .i64 B.Last.A, .int .i64 B.Last.B, .int .i64 B.Last.N, .bool B.Last.Lg, .int .i64 B.Ends, .int .i64 B.To, .int .i64 B.Else, .slice lao ll lcap] 64)
  have HW := Lib.hid hW
  have HS := Lib.hid hsz
  have hle : w.heap.size ≤ W.heap.size := by omega
  have hlt : w.heap.size + 1 < W.heap.size := by omega
  clear hW hsz b3 hc bi t3 hF
  unfold maxLen at b2 t2
  go_enter Tryz.func32, Tryz.ntmps32
  go_upto_region 5 with fail
  rw [← HW.out]
  clear c0 c1 c2 c3 c4 c5 c6 c7 c8 c9 c10 c11 c12 c13 HW d0 d1
  have e1 := hB1.cell (j := 1) rfl
  have i2 := hB2.cell (j := 2) rfl
  have i10 := hB2.cell (j := 10) rfl
  have i11 := hB2.cell (j := 11) rfl
  have i12 := hB2.cell (j := 12) rfl
  clear hB1 hB2
  have q1 : (B.Ends == 2) = true := by simpa using HH.out
  clear HH
  go_wp2_with (at_builtin; refine wpList_pushes (by rfl) (.tmp 67) (.tmp 70) 24 (by rfl) Tryz.underlying24 info_int (by rfl) (by decide) (base := w.heap.size) (l := []) (by rfl) (by exact Own.nil _ _ _ _ _) [B.To] _ _ (by rfl) (by exact Blk.top' _ _ (by first | rfl | simp)) ci_len ci_one (by simp) (by simp [maxLen]) (by simp only [sz_alloc]; omega) ?_; intro v' w' hown hbelA hgr hfr)
  have hbel : Below w.heap.size W w' := Below.trans ((Below.refl _ W).alloc hle _) hbelA
  clear hbelA hgr hfr
  go_wp2_with fail
  refine (sort_own hown (by first | decide | omega | (simp; done) | (simp; omega)) (Nat.le_trans hle hbel.size)).mono ?_
  rintro e w2 ⟨rfl, ho2, hb2⟩
  go_wp2_with fail
  refine (sorted_uniq ho2 (by first | decide | omega | (simp; done) | (simp; omega)) (Nat.le_trans (Nat.le_trans hle hbel.size) hb2.size)).mono ?_
  rintro e w3 ⟨v3, rfl, hi3, hb3⟩
  have HI := Lib.hid hi3
  clear hi3
  go_wp2
  go_ret2
  exact ⟨v3, rfl, HI.out, ((hkW.trans' hbel (Nat.le_refl _)).trans' hb2 (Nat.le_refl _)).trans' hb3 (Nat.le_refl _)⟩
theorem nexts_jumps (v : Value) (f : Fl) (k : Nat) (w : World) (hv : FlowAt w v f) (hk : k < f.Blocks.length) (hs : FlowSmall f) (h : (nth f.Blocks k).Ends = 3) :
    Calls Tryz.prog 32 #[v, .int .i64 k] w (GivesN (fun v' w' => Ints w' v' (uniq [(nth f.Blocks k).To])) 0 w) := by
  obtain ⟨v0, v1, v2, rfl, ⟨cv, av, lv, ⟨ao, cap, rfl, b1, b2, -, b3⟩, bi⟩, ⟨tv, ⟨tao, tcap, rfl, t1, t2, -, t3⟩, ti⟩, hF⟩ := hv
  obtain ⟨s1, s2, s3⟩ := hs
  obtain ⟨b, off, rfl, hc⟩ := b3 (by omega)
  have c0 : w.cell? ⟨b, off + k * 14, none⟩ = some (.int .i64 (nth f.Blocks k).Func) := hc k 0 hk (by omega)
  have c1 : w.cell? ⟨b, off + k * 14 + 1, none⟩ = some (.int .i64 (nth f.Blocks k).Start) := hc k 1 hk (by omega)
  have c2 : w.cell? ⟨b, off + k * 14 + 2, none⟩ = some (cv k) := hc k 2 hk (by omega)
  have c3 : w.cell? ⟨b, off + k * 14 + 3, none⟩ = some (av k) := hc k 3 hk (by omega)
  have c4 : w.cell? ⟨b, off + k * 14 + 4, none⟩ = some (.int .i64 (nth f.Blocks k).Last.K) := hc k 4 hk (by omega)
  have c5 : w.cell? ⟨b, off + k * 14 + 5, none⟩ = some (.int .i64 (nth f.Blocks k).Last.D) := hc k 5 hk (by omega)
  have c6 : w.cell? ⟨b, off + k * 14 + 6, none⟩ = some (.int .i64 (nth f.Blocks k).Last.A) := hc k 6 hk (by omega)
  have c7 : w.cell? ⟨b, off + k * 14 + 7, none⟩ = some (.int .i64 (nth f.Blocks k).Last.B) := hc k 7 hk (by omega)
  have c8 : w.cell? ⟨b, off + k * 14 + 8, none⟩ = some (.int .i64 (nth f.Blocks k).Last.N) := hc k 8 hk (by omega)
  have c9 : w.cell? ⟨b, off + k * 14 + 9, none⟩ = some (.bool (nth f.Blocks k).Last.Lg) := hc k 9 hk (by omega)
  have c10 : w.cell? ⟨b, off + k * 14 + 10, none⟩ = some (.int .i64 (nth f.Blocks k).Ends) := hc k 10 hk (by omega)
  have c11 : w.cell? ⟨b, off + k * 14 + 11, none⟩ = some (.int .i64 (nth f.Blocks k).To) := hc k 11 hk (by omega)
  have c12 : w.cell? ⟨b, off + k * 14 + 12, none⟩ = some (.int .i64 (nth f.Blocks k).Else) := hc k 12 hk (by omega)
  have c13 : w.cell? ⟨b, off + k * 14 + 13, none⟩ = some (lv k) := hc k 13 hk (by omega)
  obtain ⟨hCode, hAt, hLn⟩ := bi k hk
  obtain ⟨co, ccap, hvc⟩ := Arr.form hCode
  obtain ⟨aao, acap, hva⟩ := Arr.form hAt
  obtain ⟨lao, lcap, hvl⟩ := Arr.form hLn
  rw [hvc] at c2 hCode
  rw [hva] at c3
  rw [hvl] at c13
  clear hvc hva hvl hAt hLn
  have HH := Lib.hid h
  clear h
  generalize nth f.Blocks k = B at *
  generalize B.At.length = al at *
  generalize B.Lines.length = ll at *
  have d0 : decide ((k : Int) < 0) = false := by simp
  have d1 : decide (f.Blocks.length ≤ k) = false := by simpa using hk
  have hbw : b < w.heap.size := lt_of_cell c0
  obtain ⟨W, hW, hkW, hB1, hB2, hsz⟩ := two_made w (.cells #[.slice (some ⟨b, off, none⟩) f.Blocks.length cap, .slice tao f.Tables.length tcap, v2] 26) (.cells #[.int .i64 B.Func, .int .i64 B.Start, .slice co B.Code.length ccap, .slice aao al acap, .int .i64 B.Last.K, .int .i64 B.Last.D, .int .i64 B.Last.A, .int .i64 B.Last.B, .int .i64 B.Last.N, .bool B.Last.Lg, .int .i64 B.Ends, .int .i64 B.To, .int .i64 B.Else, .slice lao ll lcap] 64)
  have HW := Lib.hid hW
  have HS := Lib.hid hsz
  have hle : w.heap.size ≤ W.heap.size := by omega
  have hlt : w.heap.size + 1 < W.heap.size := by omega
  clear hW hsz b3 hc bi t3 hF
  unfold maxLen at b2 t2
  go_enter Tryz.func32, Tryz.ntmps32
  go_upto_region 5 with fail
  rw [← HW.out]
  clear c0 c1 c2 c3 c4 c5 c6 c7 c8 c9 c10 c11 c12 c13 HW d0 d1
  have e1 := hB1.cell (j := 1) rfl
  have i2 := hB2.cell (j := 2) rfl
  have i10 := hB2.cell (j := 10) rfl
  have i11 := hB2.cell (j := 11) rfl
  have i12 := hB2.cell (j := 12) rfl
  clear hB1 hB2
  have q1 : (B.Ends == 2) = false := by rw [HH.out]; rfl
  have q2 : (B.Ends == 3) = true := by simpa using HH.out
  clear HH
  go_wp2_with (at_builtin; refine wpList_pushes (by rfl) (.tmp 67) (.tmp 70) 24 (by rfl) Tryz.underlying24 info_int (by rfl) (by decide) (base := w.heap.size) (l := []) (by rfl) (by exact Own.nil _ _ _ _ _) [B.To] _ _ (by rfl) (by exact Blk.top' _ _ (by first | rfl | simp)) ci_len ci_one (by simp) (by simp [maxLen]) (by simp only [sz_alloc]; omega) ?_; intro v' w' hown hbelA hgr hfr)
  have hbel : Below w.heap.size W w' := Below.trans ((Below.refl _ W).alloc hle _) hbelA
  clear hbelA hgr hfr
  go_wp2_with fail
  refine (sort_own hown (by first | decide | omega | (simp; done) | (simp; omega)) (Nat.le_trans hle hbel.size)).mono ?_
  rintro e w2 ⟨rfl, ho2, hb2⟩
  go_wp2_with fail
  refine (sorted_uniq ho2 (by first | decide | omega | (simp; done) | (simp; omega)) (Nat.le_trans (Nat.le_trans hle hbel.size) hb2.size)).mono ?_
  rintro e w3 ⟨v3, rfl, hi3, hb3⟩
  have HI := Lib.hid hi3
  clear hi3
  go_wp2
  go_ret2
  exact ⟨v3, rfl, HI.out, ((hkW.trans' hbel (Nat.le_refl _)).trans' hb2 (Nat.le_refl _)).trans' hb3 (Nat.le_refl _)⟩
theorem nexts_chance (v : Value) (f : Fl) (k : Nat) (w : World) (hv : FlowAt w v f) (hk : k < f.Blocks.length) (hs : FlowSmall f) (h : (nth f.Blocks k).Ends = 4) :
    Calls Tryz.prog 32 #[v, .int .i64 k] w (GivesN (fun v' w' => Ints w' v' (uniq [(nth f.Blocks k).To, (nth f.Blocks k).Else])) 0 w) := by
  obtain ⟨v0, v1, v2, rfl, ⟨cv, av, lv, ⟨ao, cap, rfl, b1, b2, -, b3⟩, bi⟩, ⟨tv, ⟨tao, tcap, rfl, t1, t2, -, t3⟩, ti⟩, hF⟩ := hv
  obtain ⟨s1, s2, s3⟩ := hs
  obtain ⟨b, off, rfl, hc⟩ := b3 (by omega)
  have c0 : w.cell? ⟨b, off + k * 14, none⟩ = some (.int .i64 (nth f.Blocks k).Func) := hc k 0 hk (by omega)
  have c1 : w.cell? ⟨b, off + k * 14 + 1, none⟩ = some (.int .i64 (nth f.Blocks k).Start) := hc k 1 hk (by omega)
  have c2 : w.cell? ⟨b, off + k * 14 + 2, none⟩ = some (cv k) := hc k 2 hk (by omega)
  have c3 : w.cell? ⟨b, off + k * 14 + 3, none⟩ = some (av k) := hc k 3 hk (by omega)
  have c4 : w.cell? ⟨b, off + k * 14 + 4, none⟩ = some (.int .i64 (nth f.Blocks k).Last.K) := hc k 4 hk (by omega)
  have c5 : w.cell? ⟨b, off + k * 14 + 5, none⟩ = some (.int .i64 (nth f.Blocks k).Last.D) := hc k 5 hk (by omega)
  have c6 : w.cell? ⟨b, off + k * 14 + 6, none⟩ = some (.int .i64 (nth f.Blocks k).Last.A) := hc k 6 hk (by omega)
  have c7 : w.cell? ⟨b, off + k * 14 + 7, none⟩ = some (.int .i64 (nth f.Blocks k).Last.B) := hc k 7 hk (by omega)
  have c8 : w.cell? ⟨b, off + k * 14 + 8, none⟩ = some (.int .i64 (nth f.Blocks k).Last.N) := hc k 8 hk (by omega)
  have c9 : w.cell? ⟨b, off + k * 14 + 9, none⟩ = some (.bool (nth f.Blocks k).Last.Lg) := hc k 9 hk (by omega)
  have c10 : w.cell? ⟨b, off + k * 14 + 10, none⟩ = some (.int .i64 (nth f.Blocks k).Ends) := hc k 10 hk (by omega)
  have c11 : w.cell? ⟨b, off + k * 14 + 11, none⟩ = some (.int .i64 (nth f.Blocks k).To) := hc k 11 hk (by omega)
  have c12 : w.cell? ⟨b, off + k * 14 + 12, none⟩ = some (.int .i64 (nth f.Blocks k).Else) := hc k 12 hk (by omega)
  have c13 : w.cell? ⟨b, off + k * 14 + 13, none⟩ = some (lv k) := hc k 13 hk (by omega)
  obtain ⟨hCode, hAt, hLn⟩ := bi k hk
  obtain ⟨co, ccap, hvc⟩ := Arr.form hCode
  obtain ⟨aao, acap, hva⟩ := Arr.form hAt
  obtain ⟨lao, lcap, hvl⟩ := Arr.form hLn
  rw [hvc] at c2 hCode
  rw [hva] at c3
  rw [hvl] at c13
  clear hvc hva hvl hAt hLn
  have HH := Lib.hid h
  clear h
  generalize nth f.Blocks k = B at *
  generalize B.At.length = al at *
  generalize B.Lines.length = ll at *
  have d0 : decide ((k : Int) < 0) = false := by simp
  have d1 : decide (f.Blocks.length ≤ k) = false := by simpa using hk
  have hbw : b < w.heap.size := lt_of_cell c0
  obtain ⟨W, hW, hkW, hB1, hB2, hsz⟩ := two_made w (.cells #[.slice (some ⟨b, off, none⟩) f.Blocks.length cap, .slice tao f.Tables.length tcap, v2] 26) (.cells #[.int .i64 B.Func, .int .i64 B.Start, .slice co B.Code.length ccap, .slice aao al acap, .int .i64 B.Last.K, .int .i64 B.Last.D, .int .i64 B.Last.A, .int .i64 B.Last.B, .int .i64 B.Last.N, .bool B.Last.Lg, .int .i64 B.Ends, .int .i64 B.To, .int .i64 B.Else, .slice lao ll lcap] 64)
  have HW := Lib.hid hW
  have HS := Lib.hid hsz
  have hle : w.heap.size ≤ W.heap.size := by omega
  have hlt : w.heap.size + 1 < W.heap.size := by omega
  clear hW hsz b3 hc bi t3 hF
  unfold maxLen at b2 t2
  go_enter Tryz.func32, Tryz.ntmps32
  go_upto_region 5 with fail
  rw [← HW.out]
  clear c0 c1 c2 c3 c4 c5 c6 c7 c8 c9 c10 c11 c12 c13 HW d0 d1
  have e1 := hB1.cell (j := 1) rfl
  have i2 := hB2.cell (j := 2) rfl
  have i10 := hB2.cell (j := 10) rfl
  have i11 := hB2.cell (j := 11) rfl
  have i12 := hB2.cell (j := 12) rfl
  clear hB1 hB2
  have q1 : (B.Ends == 2) = false := by rw [HH.out]; rfl
  have q2 : (B.Ends == 3) = false := by rw [HH.out]; rfl
  have q3 : (B.Ends == 4) = true := by simpa using HH.out
  clear HH
  go_wp2_with (at_builtin; refine wpList_pushes (by rfl) (.tmp 74) (.tmp 79) 24 (by rfl) Tryz.underlying24 info_int (by rfl) (by decide) (base := w.heap.size) (l := []) (by rfl) (by exact Own.nil _ _ _ _ _) [B.To, B.Else] _ _ (by rfl) (by exact Blk.top' _ _ (by first | rfl | simp)) ci_len ci_one (by simp) (by simp [maxLen]) (by simp only [sz_alloc]; omega) ?_; intro v' w' hown hbelA hgr hfr)
  have hbel : Below w.heap.size W w' := Below.trans ((Below.refl _ W).alloc hle _) hbelA
  clear hbelA hgr hfr
  go_wp2_with fail
  refine (sort_own hown (by first | decide | omega | (simp; done) | (simp; omega)) (Nat.le_trans hle hbel.size)).mono ?_
  rintro e w2 ⟨rfl, ho2, hb2⟩
  go_wp2_with fail
  refine (sorted_uniq ho2 (by first | decide | omega | (simp; done) | (simp; omega)) (Nat.le_trans (Nat.le_trans hle hbel.size) hb2.size)).mono ?_
  rintro e w3 ⟨v3, rfl, hi3, hb3⟩
  have HI := Lib.hid hi3
  clear hi3
  go_wp2
  go_ret2
  exact ⟨v3, rfl, HI.out, ((hkW.trans' hbel (Nat.le_refl _)).trans' hb2 (Nat.le_refl _)).trans' hb3 (Nat.le_refl _)⟩
theorem nexts_empty (v : Value) (f : Fl) (k : Nat) (w : World) (hv : FlowAt w v f) (hk : k < f.Blocks.length) (hs : FlowSmall f) (h : ¬ ((nth f.Blocks k).Ends = 2 ∨ (nth f.Blocks k).Ends = 3)) (h' : ¬ (nth f.Blocks k).Ends = 4) (h0 : (nth f.Blocks k).Code = []) :
    Calls Tryz.prog 32 #[v, .int .i64 k] w (GivesN (fun v' w' => Ints w' v' (uniq [])) 0 w) := by
  obtain ⟨v0, v1, v2, rfl, ⟨cv, av, lv, ⟨ao, cap, rfl, b1, b2, -, b3⟩, bi⟩, ⟨tv, ⟨tao, tcap, rfl, t1, t2, -, t3⟩, ti⟩, hF⟩ := hv
  obtain ⟨s1, s2, s3⟩ := hs
  obtain ⟨b, off, rfl, hc⟩ := b3 (by omega)
  have c0 : w.cell? ⟨b, off + k * 14, none⟩ = some (.int .i64 (nth f.Blocks k).Func) := hc k 0 hk (by omega)
  have c1 : w.cell? ⟨b, off + k * 14 + 1, none⟩ = some (.int .i64 (nth f.Blocks k).Start) := hc k 1 hk (by omega)
  have c2 : w.cell? ⟨b, off + k * 14 + 2, none⟩ = some (cv k) := hc k 2 hk (by omega)
  have c3 : w.cell? ⟨b, off + k * 14 + 3, none⟩ = some (av k) := hc k 3 hk (by omega)
  have c4 : w.cell? ⟨b, off + k * 14 + 4, none⟩ = some (.int .i64 (nth f.Blocks k).Last.K) := hc k 4 hk (by omega)
  have c5 : w.cell? ⟨b, off + k * 14 + 5, none⟩ = some (.int .i64 (nth f.Blocks k).Last.D) := hc k 5 hk (by omega)
  have c6 : w.cell? ⟨b, off + k * 14 + 6, none⟩ = some (.int .i64 (nth f.Blocks k).Last.A) := hc k 6 hk (by omega)
  have c7 : w.cell? ⟨b, off + k * 14 + 7, none⟩ = some (.int .i64 (nth f.Blocks k).Last.B) := hc k 7 hk (by omega)
  have c8 : w.cell? ⟨b, off + k * 14 + 8, none⟩ = some (.int .i64 (nth f.Blocks k).Last.N) := hc k 8 hk (by omega)
  have c9 : w.cell? ⟨b, off + k * 14 + 9, none⟩ = some (.bool (nth f.Blocks k).Last.Lg) := hc k 9 hk (by omega)
  have c10 : w.cell? ⟨b, off + k * 14 + 10, none⟩ = some (.int .i64 (nth f.Blocks k).Ends) := hc k 10 hk (by omega)
  have c11 : w.cell? ⟨b, off + k * 14 + 11, none⟩ = some (.int .i64 (nth f.Blocks k).To) := hc k 11 hk (by omega)
  have c12 : w.cell? ⟨b, off + k * 14 + 12, none⟩ = some (.int .i64 (nth f.Blocks k).Else) := hc k 12 hk (by omega)
  have c13 : w.cell? ⟨b, off + k * 14 + 13, none⟩ = some (lv k) := hc k 13 hk (by omega)
  obtain ⟨hCode, hAt, hLn⟩ := bi k hk
  obtain ⟨co, ccap, hvc⟩ := Arr.form hCode
  obtain ⟨aao, acap, hva⟩ := Arr.form hAt
  obtain ⟨lao, lcap, hvl⟩ := Arr.form hLn
  rw [hvc] at c2 hCode
  rw [hva] at c3
  rw [hvl] at c13
  clear hvc hva hvl hAt hLn
  rw [h0] at c2
  simp only [List.length_nil] at c2
  clear hCode h0
  generalize nth f.Blocks k = B at *
  generalize B.At.length = al at *
  generalize B.Lines.length = ll at *
  have d0 : decide ((k : Int) < 0) = false := by simp
  have d1 : decide (f.Blocks.length ≤ k) = false := by simpa using hk
  have hbw : b < w.heap.size := lt_of_cell c0
  obtain ⟨W, hW, hkW, hB1, hB2, hsz⟩ := two_made w (.cells #[.slice (some ⟨b, off, none⟩) f.Blocks.length cap, .slice tao f.Tables.length tcap, v2] 26) (.cells #[.int .i64 B.Func, .int .i64 B.Start, .slice co 0 ccap, .slice aao al acap, .int .i64 B.Last.K, .int .i64 B.Last.D, .int .i64 B.Last.A, .int .i64 B.Last.B, .int .i64 B.Last.N, .bool B.Last.Lg, .int .i64 B.Ends, .int .i64 B.To, .int .i64 B.Else, .slice lao ll lcap] 64)
  have HW := Lib.hid hW
  have HS := Lib.hid hsz
  have hle : w.heap.size ≤ W.heap.size := by omega
  have hlt : w.heap.size + 1 < W.heap.size := by omega
  clear hW hsz b3 hc bi t3 hF
  unfold maxLen at b2 t2
  go_enter Tryz.func32, Tryz.ntmps32
  go_upto_region 5 with fail
  rw [← HW.out]
  clear c0 c1 c2 c3 c4 c5 c6 c7 c8 c9 c10 c11 c12 c13 HW d0 d1
  have e1 := hB1.cell (j := 1) rfl
  have i2 := hB2.cell (j := 2) rfl
  have i10 := hB2.cell (j := 10) rfl
  have i11 := hB2.cell (j := 11) rfl
  have i12 := hB2.cell (j := 12) rfl
  clear hB1 hB2
  have q1 : (B.Ends == 2) = false := by simp; omega
  have q2 : (B.Ends == 3) = false := by simp; omega
  have q3 : (B.Ends == 4) = false := by simp; omega
  clear h h'
  have hown : Own W w.heap.size 3 1 ci (.slice none 0 0) [] := Own.nil _ _ _ _ _
  have hbel : Below w.heap.size W W := Below.refl _ _
  have z0 : decide ((0 : Nat) < 0) = false := rfl
  go_wp2_with fail
  refine (sort_own hown (by first | decide | omega | (simp; done) | (simp; omega)) (Nat.le_trans hle hbel.size)).mono ?_
  rintro e w2 ⟨rfl, ho2, hb2⟩
  go_wp2_with fail
  refine (sorted_uniq ho2 (by first | decide | omega | (simp; done) | (simp; omega)) (Nat.le_trans (Nat.le_trans hle hbel.size) hb2.size)).mono ?_
  rintro e w3 ⟨v3, rfl, hi3, hb3⟩
  have HI := Lib.hid hi3
  clear hi3
  go_wp2
  go_ret2
  exact ⟨v3, rfl, HI.out, ((hkW.trans' hbel (Nat.le_refl _)).trans' hb2 (Nat.le_refl _)).trans' hb3 (Nat.le_refl _)⟩
theorem nexts_other (v : Value) (f : Fl) (k : Nat) (w : World) (hv : FlowAt w v f) (hk : k < f.Blocks.length) (hs : FlowSmall f) (h : ¬ ((nth f.Blocks k).Ends = 2 ∨ (nth f.Blocks k).Ends = 3)) (h' : ¬ (nth f.Blocks k).Ends = 4) (hp : 0 < (nth f.Blocks k).Code.length) (hK : ¬ (nth (nth f.Blocks k).Code ((nth f.Blocks k).Code.length - 1)).K = 24) :
    Calls Tryz.prog 32 #[v, .int .i64 k] w (GivesN (fun v' w' => Ints w' v' (uniq [])) 0 w) := by
  obtain ⟨v0, v1, v2, rfl, ⟨cv, av, lv, ⟨ao, cap, rfl, b1, b2, -, b3⟩, bi⟩, ⟨tv, ⟨tao, tcap, rfl, t1, t2, -, t3⟩, ti⟩, hF⟩ := hv
  obtain ⟨s1, s2, s3⟩ := hs
  obtain ⟨b, off, rfl, hc⟩ := b3 (by omega)
  have c0 : w.cell? ⟨b, off + k * 14, none⟩ = some (.int .i64 (nth f.Blocks k).Func) := hc k 0 hk (by omega)
  have c1 : w.cell? ⟨b, off + k * 14 + 1, none⟩ = some (.int .i64 (nth f.Blocks k).Start) := hc k 1 hk (by omega)
  have c2 : w.cell? ⟨b, off + k * 14 + 2, none⟩ = some (cv k) := hc k 2 hk (by omega)
  have c3 : w.cell? ⟨b, off + k * 14 + 3, none⟩ = some (av k) := hc k 3 hk (by omega)
  have c4 : w.cell? ⟨b, off + k * 14 + 4, none⟩ = some (.int .i64 (nth f.Blocks k).Last.K) := hc k 4 hk (by omega)
  have c5 : w.cell? ⟨b, off + k * 14 + 5, none⟩ = some (.int .i64 (nth f.Blocks k).Last.D) := hc k 5 hk (by omega)
  have c6 : w.cell? ⟨b, off + k * 14 + 6, none⟩ = some (.int .i64 (nth f.Blocks k).Last.A) := hc k 6 hk (by omega)
  have c7 : w.cell? ⟨b, off + k * 14 + 7, none⟩ = some (.int .i64 (nth f.Blocks k).Last.B) := hc k 7 hk (by omega)
  have c8 : w.cell? ⟨b, off + k * 14 + 8, none⟩ = some (.int .i64 (nth f.Blocks k).Last.N) := hc k 8 hk (by omega)
  have c9 : w.cell? ⟨b, off + k * 14 + 9, none⟩ = some (.bool (nth f.Blocks k).Last.Lg) := hc k 9 hk (by omega)
  have c10 : w.cell? ⟨b, off + k * 14 + 10, none⟩ = some (.int .i64 (nth f.Blocks k).Ends) := hc k 10 hk (by omega)
  have c11 : w.cell? ⟨b, off + k * 14 + 11, none⟩ = some (.int .i64 (nth f.Blocks k).To) := hc k 11 hk (by omega)
  have c12 : w.cell? ⟨b, off + k * 14 + 12, none⟩ = some (.int .i64 (nth f.Blocks k).Else) := hc k 12 hk (by omega)
  have c13 : w.cell? ⟨b, off + k * 14 + 13, none⟩ = some (lv k) := hc k 13 hk (by omega)
  obtain ⟨hCode, hAt, hLn⟩ := bi k hk
  obtain ⟨co, ccap, hvc⟩ := Arr.form hCode
  obtain ⟨aao, acap, hva⟩ := Arr.form hAt
  obtain ⟨lao, lcap, hvl⟩ := Arr.form hLn
  rw [hvc] at c2 hCode
  rw [hva] at c3
  rw [hvl] at c13
  clear hvc hva hvl hAt hLn
  obtain ⟨co', ccap', hvc, k1, k2, -, k3⟩ := hCode
  injection hvc with e1 e2 e3
  subst e1
  subst e3
  clear e2
  obtain ⟨cb, coff, rfl, kc⟩ := k3 hp
  have m0 : w.cell? ⟨cb, coff + ((nth f.Blocks k).Code.length - 1) * 6, none⟩ = some (.int .i64 (nth (nth f.Blocks k).Code ((nth f.Blocks k).Code.length - 1)).K) := kc _ 0 (by omega) (by omega)
  have m4 : w.cell? ⟨cb, coff + ((nth f.Blocks k).Code.length - 1) * 6 + 4, none⟩ = some (.int .i64 (nth (nth f.Blocks k).Code ((nth f.Blocks k).Code.length - 1)).N) := kc _ 4 (by omega) (by omega)
  generalize (nth (nth f.Blocks k).Code ((nth f.Blocks k).Code.length - 1)) = I at *
  generalize (nth f.Blocks k).Code.length = cl at *
  obtain ⟨cm, rfl⟩ : ∃ cm, cl = cm + 1 := ⟨cl - 1, by omega⟩
  simp only [Nat.add_sub_cancel] at m0 m4
  clear k3 kc
  unfold maxLen at k2
  generalize nth f.Blocks k = B at *
  generalize B.At.length = al at *
  generalize B.Lines.length = ll at *
  have d0 : decide ((k : Int) < 0) = false := by simp
  have d1 : decide (f.Blocks.length ≤ k) = false := by simpa using hk
  have hbw : b < w.heap.size := lt_of_cell c0
  obtain ⟨W, hW, hkW, hB1, hB2, hsz⟩ := two_made w (.cells #[.slice (some ⟨b, off, none⟩) f.Blocks.length cap, .slice tao f.Tables.length tcap, v2] 26) (.cells #[.int .i64 B.Func, .int .i64 B.Start, .slice (some ⟨cb, coff, none⟩) (cm + 1) ccap, .slice aao al acap, .int .i64 B.Last.K, .int .i64 B.Last.D, .int .i64 B.Last.A, .int .i64 B.Last.B, .int .i64 B.Last.N, .bool B.Last.Lg, .int .i64 B.Ends, .int .i64 B.To, .int .i64 B.Else, .slice lao ll lcap] 64)
  have HW := Lib.hid hW
  have HS := Lib.hid hsz
  have hle : w.heap.size ≤ W.heap.size := by omega
  have hlt : w.heap.size + 1 < W.heap.size := by omega
  clear hW hsz b3 hc bi t3 hF
  unfold maxLen at b2 t2
  go_enter Tryz.func32, Tryz.ntmps32
  go_upto_region 5 with fail
  rw [← HW.out]
  clear c0 c1 c2 c3 c4 c5 c6 c7 c8 c9 c10 c11 c12 c13 HW d0 d1
  have e1 := hB1.cell (j := 1) rfl
  have i2 := hB2.cell (j := 2) rfl
  have i10 := hB2.cell (j := 10) rfl
  have i11 := hB2.cell (j := 11) rfl
  have i12 := hB2.cell (j := 12) rfl
  clear hB1 hB2
  have q1 : (B.Ends == 2) = false := by simp; omega
  have q2 : (B.Ends == 3) = false := by simp; omega
  have q3 : (B.Ends == 4) = false := by simp; omega
  clear h h'
  have m0 := hkW.cell m0
  have m4 := hkW.cell m4
  have q5 : (I.K == 24) = false := by simpa using hK
  clear hK
  have hown : Own W w.heap.size 3 1 ci (.slice none 0 0) [] := Own.nil _ _ _ _ _
  have hbel : Below w.heap.size W W := Below.refl _ _
  go_wp2_with fail
  refine (sort_own hown (by first | decide | omega | (simp; done) | (simp; omega)) (Nat.le_trans hle hbel.size)).mono ?_
  rintro e w2 ⟨rfl, ho2, hb2⟩
  go_wp2_with fail
  refine (sorted_uniq ho2 (by first | decide | omega | (simp; done) | (simp; omega)) (Nat.le_trans (Nat.le_trans hle hbel.size) hb2.size)).mono ?_
  rintro e w3 ⟨v3, rfl, hi3, hb3⟩
  have HI := Lib.hid hi3
  clear hi3
  go_wp2
  go_ret2
  exact ⟨v3, rfl, HI.out, ((hkW.trans' hbel (Nat.le_refl _)).trans' hb2 (Nat.le_refl _)).trans' hb3 (Nat.le_refl _)⟩
theorem nexts_out (v : Value) (f : Fl) (k : Nat) (w : World) (hv : FlowAt w v f) (hk : k < f.Blocks.length) (hs : FlowSmall f) (h : ¬ ((nth f.Blocks k).Ends = 2 ∨ (nth f.Blocks k).Ends = 3)) (h' : ¬ (nth f.Blocks k).Ends = 4) (hp : 0 < (nth f.Blocks k).Code.length) (hK : (nth (nth f.Blocks k).Code ((nth f.Blocks k).Code.length - 1)).K = 24) (hN : (nth (nth f.Blocks k).Code ((nth f.Blocks k).Code.length - 1)).N < 0 ∨ (f.Tables.length : Int) ≤ (nth (nth f.Blocks k).Code ((nth f.Blocks k).Code.length - 1)).N) :
    Calls Tryz.prog 32 #[v, .int .i64 k] w (GivesN (fun v' w' => Ints w' v' (uniq [])) 0 w) := by
  obtain ⟨v0, v1, v2, rfl, ⟨cv, av, lv, ⟨ao, cap, rfl, b1, b2, -, b3⟩, bi⟩, ⟨tv, ⟨tao, tcap, rfl, t1, t2, -, t3⟩, ti⟩, hF⟩ := hv
  obtain ⟨s1, s2, s3⟩ := hs
  obtain ⟨b, off, rfl, hc⟩ := b3 (by omega)
  have c0 : w.cell? ⟨b, off + k * 14, none⟩ = some (.int .i64 (nth f.Blocks k).Func) := hc k 0 hk (by omega)
  have c1 : w.cell? ⟨b, off + k * 14 + 1, none⟩ = some (.int .i64 (nth f.Blocks k).Start) := hc k 1 hk (by omega)
  have c2 : w.cell? ⟨b, off + k * 14 + 2, none⟩ = some (cv k) := hc k 2 hk (by omega)
  have c3 : w.cell? ⟨b, off + k * 14 + 3, none⟩ = some (av k) := hc k 3 hk (by omega)
  have c4 : w.cell? ⟨b, off + k * 14 + 4, none⟩ = some (.int .i64 (nth f.Blocks k).Last.K) := hc k 4 hk (by omega)
  have c5 : w.cell? ⟨b, off + k * 14 + 5, none⟩ = some (.int .i64 (nth f.Blocks k).Last.D) := hc k 5 hk (by omega)
  have c6 : w.cell? ⟨b, off + k * 14 + 6, none⟩ = some (.int .i64 (nth f.Blocks k).Last.A) := hc k 6 hk (by omega)
  have c7 : w.cell? ⟨b, off + k * 14 + 7, none⟩ = some (.int .i64 (nth f.Blocks k).Last.B) := hc k 7 hk (by omega)
  have c8 : w.cell? ⟨b, off + k * 14 + 8, none⟩ = some (.int .i64 (nth f.Blocks k).Last.N) := hc k 8 hk (by omega)
  have c9 : w.cell? ⟨b, off + k * 14 + 9, none⟩ = some (.bool (nth f.Blocks k).Last.Lg) := hc k 9 hk (by omega)
  have c10 : w.cell? ⟨b, off + k * 14 + 10, none⟩ = some (.int .i64 (nth f.Blocks k).Ends) := hc k 10 hk (by omega)
  have c11 : w.cell? ⟨b, off + k * 14 + 11, none⟩ = some (.int .i64 (nth f.Blocks k).To) := hc k 11 hk (by omega)
  have c12 : w.cell? ⟨b, off + k * 14 + 12, none⟩ = some (.int .i64 (nth f.Blocks k).Else) := hc k 12 hk (by omega)
  have c13 : w.cell? ⟨b, off + k * 14 + 13, none⟩ = some (lv k) := hc k 13 hk (by omega)
  obtain ⟨hCode, hAt, hLn⟩ := bi k hk
  obtain ⟨co, ccap, hvc⟩ := Arr.form hCode
  obtain ⟨aao, acap, hva⟩ := Arr.form hAt
  obtain ⟨lao, lcap, hvl⟩ := Arr.form hLn
  rw [hvc] at c2 hCode
  rw [hva] at c3
  rw [hvl] at c13
  clear hvc hva hvl hAt hLn
  obtain ⟨co', ccap', hvc, k1, k2, -, k3⟩ := hCode
  injection hvc with e1 e2 e3
  subst e1
  subst e3
  clear e2
  obtain ⟨cb, coff, rfl, kc⟩ := k3 hp
  have m0 : w.cell? ⟨cb, coff + ((nth f.Blocks k).Code.length - 1) * 6, none⟩ = some (.int .i64 (nth (nth f.Blocks k).Code ((nth f.Blocks k).Code.length - 1)).K) := kc _ 0 (by omega) (by omega)
  have m4 : w.cell? ⟨cb, coff + ((nth f.Blocks k).Code.length - 1) * 6 + 4, none⟩ = some (.int .i64 (nth (nth f.Blocks k).Code ((nth f.Blocks k).Code.length - 1)).N) := kc _ 4 (by omega) (by omega)
  generalize (nth (nth f.Blocks k).Code ((nth f.Blocks k).Code.length - 1)) = I at *
  generalize (nth f.Blocks k).Code.length = cl at *
  obtain ⟨cm, rfl⟩ : ∃ cm, cl = cm + 1 := ⟨cl - 1, by omega⟩
  simp only [Nat.add_sub_cancel] at m0 m4
  clear k3 kc
  unfold maxLen at k2
  generalize nth f.Blocks k = B at *
  generalize B.At.length = al at *
  generalize B.Lines.length = ll at *
  have d0 : decide ((k : Int) < 0) = false := by simp
  have d1 : decide (f.Blocks.length ≤ k) = false := by simpa using hk
  have hbw : b < w.heap.size := lt_of_cell c0
  obtain ⟨W, hW, hkW, hB1, hB2, hsz⟩ := two_made w (.cells #[.slice (some ⟨b, off, none⟩) f.Blocks.length cap, .slice tao f.Tables.length tcap, v2] 26) (.cells #[.int .i64 B.Func, .int .i64 B.Start, .slice (some ⟨cb, coff, none⟩) (cm + 1) ccap, .slice aao al acap, .int .i64 B.Last.K, .int .i64 B.Last.D, .int .i64 B.Last.A, .int .i64 B.Last.B, .int .i64 B.Last.N, .bool B.Last.Lg, .int .i64 B.Ends, .int .i64 B.To, .int .i64 B.Else, .slice lao ll lcap] 64)
  have HW := Lib.hid hW
  have HS := Lib.hid hsz
  have hle : w.heap.size ≤ W.heap.size := by omega
  have hlt : w.heap.size + 1 < W.heap.size := by omega
  clear hW hsz b3 hc bi t3 hF
  unfold maxLen at b2 t2
  go_enter Tryz.func32, Tryz.ntmps32
  go_upto_region 5 with fail
  rw [← HW.out]
  clear c0 c1 c2 c3 c4 c5 c6 c7 c8 c9 c10 c11 c12 c13 HW d0 d1
  have e1 := hB1.cell (j := 1) rfl
  have i2 := hB2.cell (j := 2) rfl
  have i10 := hB2.cell (j := 10) rfl
  have i11 := hB2.cell (j := 11) rfl
  have i12 := hB2.cell (j := 12) rfl
  clear hB1 hB2
  have q1 : (B.Ends == 2) = false := by simp; omega
  have q2 : (B.Ends == 3) = false := by simp; omega
  have q3 : (B.Ends == 4) = false := by simp; omega
  clear h h'
  have m0 := hkW.cell m0
  have m4 := hkW.cell m4
  have q5 : (I.K == 24) = true := by simpa using hK
  clear hK
  have hown : Own W w.heap.size 3 1 ci (.slice none 0 0) [] := Own.nil _ _ _ _ _
  have hbel : Below w.heap.size W W := Below.refl _ _
  rcases Int.lt_or_le I.N 0 with hN0 | hN0
  · have q6 : decide (0 ≤ I.N) = false := by simp; omega
    go_wp2_with fail
    refine (sort_own hown (by first | decide | omega | (simp; done) | (simp; omega)) (Nat.le_trans hle hbel.size)).mono ?_
    rintro e w2 ⟨rfl, ho2, hb2⟩
    go_wp2_with fail
    refine (sorted_uniq ho2 (by first | decide | omega | (simp; done) | (simp; omega)) (Nat.le_trans (Nat.le_trans hle hbel.size) hb2.size)).mono ?_
    rintro e w3 ⟨v3, rfl, hi3, hb3⟩
    have HI := Lib.hid hi3
    clear hi3
    go_wp2
    go_ret2
    exact ⟨v3, rfl, HI.out, ((hkW.trans' hbel (Nat.le_refl _)).trans' hb2 (Nat.le_refl _)).trans' hb3 (Nat.le_refl _)⟩
  · have q6 : decide (0 ≤ I.N) = true := by simp; omega
    have q7 : decide (I.N < (f.Tables.length : Int)) = false := by simp; omega
    go_wp2_with fail
    refine (sort_own hown (by first | decide | omega | (simp; done) | (simp; omega)) (Nat.le_trans hle hbel.size)).mono ?_
    rintro e w2 ⟨rfl, ho2, hb2⟩
    go_wp2_with fail
    refine (sorted_uniq ho2 (by first | decide | omega | (simp; done) | (simp; omega)) (Nat.le_trans (Nat.le_trans hle hbel.size) hb2.size)).mono ?_
    rintro e w3 ⟨v3, rfl, hi3, hb3⟩
    have HI := Lib.hid hi3
    clear hi3
    go_wp2
    go_ret2
    exact ⟨v3, rfl, HI.out, ((hkW.trans' hbel (Nat.le_refl _)).trans' hb2 (Nat.le_refl _)).trans' hb3 (Nat.le_refl _)⟩
theorem nexts_table (v : Value) (f : Fl) (k : Nat) (w : World) (hv : FlowAt w v f) (hk : k < f.Blocks.length) (hs : FlowSmall f) (h : ¬ ((nth f.Blocks k).Ends = 2 ∨ (nth f.Blocks k).Ends = 3)) (h' : ¬ (nth f.Blocks k).Ends = 4) (hp : 0 < (nth f.Blocks k).Code.length) (hK : (nth (nth f.Blocks k).Code ((nth f.Blocks k).Code.length - 1)).K = 24) (hN0 : 0 ≤ (nth (nth f.Blocks k).Code ((nth f.Blocks k).Code.length - 1)).N) (hN1 : (nth (nth f.Blocks k).Code ((nth f.Blocks k).Code.length - 1)).N < (f.Tables.length : Int)) :
    Calls Tryz.prog 32 #[v, .int .i64 k] w (GivesN (fun v' w' => Ints w' v' (uniq (nth f.Tables (nth (nth f.Blocks k).Code ((nth f.Blocks k).Code.length - 1)).N.toNat))) 0 w) := by
  obtain ⟨v0, v1, v2, rfl, ⟨cv, av, lv, ⟨ao, cap, rfl, b1, b2, -, b3⟩, bi⟩, ⟨tv, ⟨tao, tcap, rfl, t1, t2, -, t3⟩, ti⟩, hF⟩ := hv
  obtain ⟨s1, s2, s3⟩ := hs
  obtain ⟨b, off, rfl, hc⟩ := b3 (by omega)
  have c0 : w.cell? ⟨b, off + k * 14, none⟩ = some (.int .i64 (nth f.Blocks k).Func) := hc k 0 hk (by omega)
  have c1 : w.cell? ⟨b, off + k * 14 + 1, none⟩ = some (.int .i64 (nth f.Blocks k).Start) := hc k 1 hk (by omega)
  have c2 : w.cell? ⟨b, off + k * 14 + 2, none⟩ = some (cv k) := hc k 2 hk (by omega)
  have c3 : w.cell? ⟨b, off + k * 14 + 3, none⟩ = some (av k) := hc k 3 hk (by omega)
  have c4 : w.cell? ⟨b, off + k * 14 + 4, none⟩ = some (.int .i64 (nth f.Blocks k).Last.K) := hc k 4 hk (by omega)
  have c5 : w.cell? ⟨b, off + k * 14 + 5, none⟩ = some (.int .i64 (nth f.Blocks k).Last.D) := hc k 5 hk (by omega)
  have c6 : w.cell? ⟨b, off + k * 14 + 6, none⟩ = some (.int .i64 (nth f.Blocks k).Last.A) := hc k 6 hk (by omega)
  have c7 : w.cell? ⟨b, off + k * 14 + 7, none⟩ = some (.int .i64 (nth f.Blocks k).Last.B) := hc k 7 hk (by omega)
  have c8 : w.cell? ⟨b, off + k * 14 + 8, none⟩ = some (.int .i64 (nth f.Blocks k).Last.N) := hc k 8 hk (by omega)
  have c9 : w.cell? ⟨b, off + k * 14 + 9, none⟩ = some (.bool (nth f.Blocks k).Last.Lg) := hc k 9 hk (by omega)
  have c10 : w.cell? ⟨b, off + k * 14 + 10, none⟩ = some (.int .i64 (nth f.Blocks k).Ends) := hc k 10 hk (by omega)
  have c11 : w.cell? ⟨b, off + k * 14 + 11, none⟩ = some (.int .i64 (nth f.Blocks k).To) := hc k 11 hk (by omega)
  have c12 : w.cell? ⟨b, off + k * 14 + 12, none⟩ = some (.int .i64 (nth f.Blocks k).Else) := hc k 12 hk (by omega)
  have c13 : w.cell? ⟨b, off + k * 14 + 13, none⟩ = some (lv k) := hc k 13 hk (by omega)
  obtain ⟨hCode, hAt, hLn⟩ := bi k hk
  obtain ⟨co, ccap, hvc⟩ := Arr.form hCode
  obtain ⟨aao, acap, hva⟩ := Arr.form hAt
  obtain ⟨lao, lcap, hvl⟩ := Arr.form hLn
  rw [hvc] at c2 hCode
  rw [hva] at c3
  rw [hvl] at c13
  clear hvc hva hvl hAt hLn
  obtain ⟨co', ccap', hvc, k1, k2, -, k3⟩ := hCode
  injection hvc with e1 e2 e3
  subst e1
  subst e3
  clear e2
  obtain ⟨cb, coff, rfl, kc⟩ := k3 hp
  have m0 : w.cell? ⟨cb, coff + ((nth f.Blocks k).Code.length - 1) * 6, none⟩ = some (.int .i64 (nth (nth f.Blocks k).Code ((nth f.Blocks k).Code.length - 1)).K) := kc _ 0 (by omega) (by omega)
  have m4 : w.cell? ⟨cb, coff + ((nth f.Blocks k).Code.length - 1) * 6 + 4, none⟩ = some (.int .i64 (nth (nth f.Blocks k).Code ((nth f.Blocks k).Code.length - 1)).N) := kc _ 4 (by omega) (by omega)
  generalize (nth (nth f.Blocks k).Code ((nth f.Blocks k).Code.length - 1)) = I at *
  generalize (nth f.Blocks k).Code.length = cl at *
  obtain ⟨cm, rfl⟩ : ∃ cm, cl = cm + 1 := ⟨cl - 1, by omega⟩
  simp only [Nat.add_sub_cancel] at m0 m4
  clear k3 kc
  unfold maxLen at k2
  obtain ⟨i, hi⟩ : ∃ i : Nat, I.N = i := ⟨I.N.toNat, by omega⟩
  rw [hi] at m4 hN0 hN1 ⊢
  rw [Int.toNat_natCast]
  clear hi
  have hil : i < f.Tables.length := by omega
  have HT := Lib.hid (ti i hil)
  have hsm := s3 _ (nth_mem hil)
  obtain ⟨tb, toff, rfl, tc⟩ := t3 (by omega)
  have n0 : w.cell? ⟨tb, toff + i, none⟩ = some (tv i) := by simpa using tc i 0 hil (by omega)
  obtain ⟨eo, ecap, he⟩ := HT.out.form
  rw [he] at n0 HT
  generalize nth f.Tables i = T at *
  clear tc he ti
  generalize nth f.Blocks k = B at *
  generalize B.At.length = al at *
  generalize B.Lines.length = ll at *
  have d0 : decide ((k : Int) < 0) = false := by simp
  have d1 : decide (f.Blocks.length ≤ k) = false := by simpa using hk
  have hbw : b < w.heap.size := lt_of_cell c0
  obtain ⟨W, hW, hkW, hB1, hB2, hsz⟩ := two_made w (.cells #[.slice (some ⟨b, off, none⟩) f.Blocks.length cap, .slice (some ⟨tb, toff, none⟩) f.Tables.length tcap, v2] 26) (.cells #[.int .i64 B.Func, .int .i64 B.Start, .slice (some ⟨cb, coff, none⟩) (cm + 1) ccap, .slice aao al acap, .int .i64 B.Last.K, .int .i64 B.Last.D, .int .i64 B.Last.A, .int .i64 B.Last.B, .int .i64 B.Last.N, .bool B.Last.Lg, .int .i64 B.Ends, .int .i64 B.To, .int .i64 B.Else, .slice lao ll lcap] 64)
  have HW := Lib.hid hW
  have HS := Lib.hid hsz
  have hle : w.heap.size ≤ W.heap.size := by omega
  have hlt : w.heap.size + 1 < W.heap.size := by omega
  clear hW hsz b3 hc bi t3 hF
  unfold maxLen at b2 t2
  go_enter Tryz.func32, Tryz.ntmps32
  go_upto_region 5 with fail
  rw [← HW.out]
  clear c0 c1 c2 c3 c4 c5 c6 c7 c8 c9 c10 c11 c12 c13 HW d0 d1
  have e1 := hB1.cell (j := 1) rfl
  have i2 := hB2.cell (j := 2) rfl
  have i10 := hB2.cell (j := 10) rfl
  have i11 := hB2.cell (j := 11) rfl
  have i12 := hB2.cell (j := 12) rfl
  clear hB1 hB2
  have q1 : (B.Ends == 2) = false := by simp; omega
  have q2 : (B.Ends == 3) = false := by simp; omega
  have q3 : (B.Ends == 4) = false := by simp; omega
  clear h h'
  have m0 := hkW.cell m0
  have m4 := hkW.cell m4
  have n0 := hkW.cell n0
  have q5 : (I.K == 24) = true := by simpa using hK
  clear hK
  have q6 : decide ((0 : Int) ≤ i) = true := by simp
  have q7 : decide (i < f.Tables.length) = true := by simpa using hil
  go_wp2_with (at_builtin; refine wpList_onto (by rfl) (.tmp 57) (.tmp 62) 24 24 (by rfl) Tryz.underlying24 info_int (by rfl) (base := w.heap.size) (f := ci) (l := []) (by rfl) (by exact Own.nil _ _ _ _ _) (ys := T) (by rfl) (by exact src_arr (by decide) ci_len ci_one Tryz.underlying24 (ints_arr (Arr.keep HT.out hkW))) (by simpa using hsm) (by simp [maxLen]; omega) hle ?_; intro v' w' hown hbel hgr hfr)
  clear hgr hfr
  rw [List.nil_append] at hown
  go_wp2_with fail
  refine (sort_own hown (by first | decide | omega | (simp; done) | (simp; omega)) (Nat.le_trans hle hbel.size)).mono ?_
  rintro e w2 ⟨rfl, ho2, hb2⟩
  go_wp2_with fail
  refine (sorted_uniq ho2 (by first | decide | omega | (simp; done) | (simp; omega)) (Nat.le_trans (Nat.le_trans hle hbel.size) hb2.size)).mono ?_
  rintro e w3 ⟨v3, rfl, hi3, hb3⟩
  have HI := Lib.hid hi3
  clear hi3
  go_wp2
  go_ret2
  exact ⟨v3, rfl, HI.out, ((hkW.trans' hbel (Nat.le_refl _)).trans' hb2 (Nat.le_refl _)).trans' hb3 (Nat.le_refl _)⟩
theorem nexts_ok (v : Value) (f : Fl) (k : Nat) (w : World) (hv : FlowAt w v f) (hk : k < f.Blocks.length) (hs : FlowSmall f) :
    Calls Tryz.prog 32 #[v, .int .i64 k] w (GivesN (fun v' w' => Ints w' v' (uniq (nextsRaw f (nth f.Blocks k)))) 0 w) := by
  unfold nextsRaw
  by_cases h2 : (nth f.Blocks k).Ends = 2
  · rw [if_pos (Or.inl h2)]; exact nexts_falls v f k w hv hk hs h2
  by_cases h3 : (nth f.Blocks k).Ends = 3
  · rw [if_pos (Or.inr h3)]; exact nexts_jumps v f k w hv hk hs h3
  have h23 : ¬ ((nth f.Blocks k).Ends = 2 ∨ (nth f.Blocks k).Ends = 3) := by exact fun h => h.elim h2 h3
  rw [if_neg h23]
  by_cases h4 : (nth f.Blocks k).Ends = 4
  · rw [if_pos h4]; exact nexts_chance v f k w hv hk hs h4
  rw [if_neg h4]
  unfold tabOf
  by_cases hp : 0 < (nth f.Blocks k).Code.length
  · by_cases hK : (nth (nth f.Blocks k).Code ((nth f.Blocks k).Code.length - 1)).K = 24
    · by_cases hN : (nth (nth f.Blocks k).Code ((nth f.Blocks k).Code.length - 1)).N < 0 ∨ (f.Tables.length : Int) ≤ (nth (nth f.Blocks k).Code ((nth f.Blocks k).Code.length - 1)).N
      · rw [if_neg (by rintro ⟨-, -, h1, h2⟩; omega)]; exact nexts_out v f k w hv hk hs h23 h4 hp hK hN
      · rw [if_pos ⟨hp, hK, by omega, by omega⟩]; exact nexts_table v f k w hv hk hs h23 h4 hp hK (by omega) (by omega)
    · rw [if_neg (by rintro ⟨-, h, -⟩; exact hK h)]; exact nexts_other v f k w hv hk hs h23 h4 hp hK
  · rw [if_neg (by rintro ⟨h, -⟩; exact hp h)]
    exact nexts_empty v f k w hv hk hs h23 h4 (List.eq_nil_of_length_eq_zero (by omega))
end Go.Proofs.YtjnhiiidcjajbaaGreatDoor
