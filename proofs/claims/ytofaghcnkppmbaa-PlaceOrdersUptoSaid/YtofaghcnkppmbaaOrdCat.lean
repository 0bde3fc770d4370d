/-
  slices.Concat at []int: all the rows, one behind the other, in a row of the call's own.
-/
import Derived.Test.YtofaghcnkppmbaaFoot
import Derived.Test.YtofaghcnkppmbaaOnto
import Derived.Test.YtofaghcnkppmbaaTypes
import Derived.Test.YtofaghcnkppmbaaChecked
import Derived.Lib.Hide
import Derived.Lib.AppendZerosOnto
namespace Go.Proofs.Ytofaghcnkppmbaa
open Go.RowKit BH
set_option maxHeartbeats 1000000000
set_option maxRecDepth 100000
theorem grow_nil (n : Nat) (w : World) (hn : n ≤ 4398046511104) :
    Calls Try.prog 49 #[.slice none 0 0, .int .i64 (n : Int)] w fun e w' => ∃ v, e = .returned v ∧ Own w' w.heap.size 3 1 ci v [] ∧ Keeps w w' := by
  have h1 : ¬ ((n : Int) < 0) := by omega
  by_cases hn0 : n = 0
  · subst hn0
    go_enter Try.func49, Try.ntmps49
    go_wp2_with fail
    go_ret
    exact ⟨_, rfl, Own.nil _ _ _ _ _, Keeps.refl _⟩
  · have h4 : (0 : Int) < (n : Int) := by omega
    have h5 : (n : Int) > 0 := h4
    have hinfo := info_int
    cases hI : Try.prog.info? 3 with
    | none => rw [hI] at hinfo; cases hinfo
    | some i =>
      rw [hI] at hinfo
      simp only [Option.map_some, Option.some.injEq, Prod.mk.injEq] at hinfo
      obtain ⟨hz, hsz, hby⟩ := hinfo
      have hrz : ∀ ty, (Builtin.append_ #[24, 3] ty #[.slice none 0 0, .int .i64 (n : Int)]).run Try.prog w = .ok (.slice (some ⟨w.heap.size, 0, none⟩) n (grownCap w n 0 3)) (w.drew.alloc (.cells (#[] ++ Builtin.zeroCells (Value.int .i64 0).cells n ++ Builtin.zeroCells (Value.int .i64 0).cells (grownCap w n 0 3 - n)) 3)) := fun ty => by
        have h := Lib.run_append_grow_zeros w 24 3 ty 3 i (Value.int .i64 0) .i64 .i64 Try.underlying24 Try.underlying3 hI hz none 0 0 [] (run_firstCells_none w.drew i.size 0 0 0) n (by omega) (by omega) (by omega) (by omega) (by rw [hby]; omega) (by rw [Nat.zero_add]; exact growslice_fits (by omega) (by rw [hby]; omega))
        rw [Nat.zero_add] at h
        exact h
      have hGn : n ≤ grownCap w n 0 3 := grownCap_ge w _ _ _
      have hG63 := grownCap_le_maxLen w n 0 3 (by unfold maxLen; omega)
      obtain ⟨G, hG⟩ : ∃ G, G = grownCap w n 0 3 := ⟨_, rfl⟩
      rw [← hG] at hrz hGn hG63
      have HG := Lib.hid hG63
      unfold maxLen at hG63
      obtain ⟨cs, hcs⟩ : ∃ cs, cs = #[] ++ Builtin.zeroCells (Value.int .i64 0).cells n ++ Builtin.zeroCells (Value.int .i64 0).cells (G - n) := ⟨_, rfl⟩
      rw [← hcs] at hrz
      have hcz : cs.size = G * 1 := by
        rw [hcs]
        have e1 : (Value.int .i64 0).cells.size = 1 := rfl
        simp only [Array.size_append, size_zeroCells, e1, Array.size_empty]
        omega
      have HCS := Lib.hid hcz
      clear hG hcs hI hz hsz hby hcz
      go_enter Try.func49, Try.ntmps49
      go_wp2_with (at_builtin; refine Lib.wpList_append_run _ rfl _ _ _ _ rfl _ _ rfl rfl _ _ (hrz _) ?_)
      go_ret
      exact ⟨_, rfl, ⟨rfl, Or.inr ⟨w.heap.size, G, cs, rfl, Nat.le_refl _, Blk.top' _ _ (by first | rfl | simp), Nat.zero_le _, HG.out, HCS.out, by simp⟩⟩, (by repeat (with_reducible (first | assumption | exact Keeps.refl _ | refine Keeps.alloc ?_ _ | refine Keeps.drew ?_ | refine Keeps.drewN ?_ _)))⟩
/-- a slice of slices of ints, as Tabs has it, row by row -/
theorem concat_any (v : Value) (ls : List (List Int)) (w : World) (hv : Tabs w v ls) (hl : ls.flatten.length ≤ 4398046511104) (hn : ls.length ≤ 4398046511104) :
    Calls Try.prog 36 #[v] w (Gives (fun v' w' => Own w' w.heap.size 3 1 ci v' ls.flatten) w) := by
  obtain ⟨tv, ⟨ao, cap, rfl, h1, h2, -, h3⟩, h4⟩ := hv
  unfold maxLen at h2
  have hpre : ∀ k, k < ls.length → (ls.take (k + 1)).flatten.length = (ls.take k).flatten.length + (nth ls k).length ∧ (ls.take (k + 1)).flatten.length ≤ 4398046511104 ∧ (ls.take (k + 1)).flatten = (ls.take k).flatten ++ nth ls k := fun k hk => by
    have e : (ls.take (k + 1)).flatten = (ls.take k).flatten ++ nth ls k := by rw [take_succ_nth _ _ hk, List.flatten_append, List.flatten_singleton]
    refine ⟨by rw [e, List.length_append], ?_, e⟩
    have : ls.flatten = (ls.take (k + 1)).flatten ++ (ls.drop (k + 1)).flatten := by rw [← List.flatten_append, List.take_append_drop]
    rw [this, List.length_append] at hl
    omega
  have HPRE := Lib.hid hpre
  clear hpre
  go_enter Try.func36, Try.ntmps36
  go_wp2_with fail
  go_loopw [3, 11] (fun s3 s11 wr => ∃ k : Nat, k ≤ ls.length ∧ s3 = .int .i64 ((ls.take k).flatten.length : Nat) ∧ s11 = .int .i64 k ∧ wr = w) (fun _ s11 _ => ls.length - (intOf s11).toNat)
  case atStart => exact ⟨0, Nat.zero_le _, by simp, rfl, rfl⟩
  case round =>
    obtain ⟨k, hk, rfl, rfl, rfl⟩ := hrel
    by_cases hlt : k < ls.length
    · have hltz : (k : Int) < (ls.length : Int) := by omega
      obtain ⟨b, off, rfl, hc⟩ := h3 (by omega)
      have c0 := hc k 0 hlt (by omega)
      obtain ⟨ak, ck, ek⟩ := Arr.form (h4 k hlt)
      rw [ek] at c0
      have c1 : wr.cell? ⟨b, off + k, none⟩ = some (.slice ak (nth ls k).length ck) := by simpa using c0
      obtain ⟨p1, p2, p3⟩ := HPRE.out k hlt
      have HP1 := Lib.hid p1
      obtain ⟨S, hS⟩ : ∃ S : Nat, S = (ls.take k).flatten.length := ⟨_, rfl⟩
      obtain ⟨L, hL⟩ : ∃ L : Nat, L = (nth ls k).length := ⟨_, rfl⟩
      rw [← hL] at c1
      rw [← hS]
      have hSL : (S : Int) + (L : Int) ≤ 4398046511104 := by omega
      have hSn : ¬ ((S : Int) + (L : Int) < 0) := by omega
      have wS : IntKind.i64.wrap ((S : Int) + (L : Int)) = (S : Int) + (L : Int) := by rw [IntKind.wrap_i64]; omega
      have HS := Lib.hid hS
      have HL := Lib.hid hL
      clear hS hL c0 hc p1 p2 p3 ek h3
      go_wp2_with fail
      go_roundw
      case rel => exact ⟨k + 1, by omega, by rw [HP1.out, ← HS.out, ← HL.out]; go_num, by go_num, trivial⟩
      case measure => simp [intOf]; omega
    · obtain rfl : k = ls.length := by omega
      rw [List.take_length]
      obtain ⟨N, hN⟩ : ∃ N : Nat, N = ls.flatten.length := ⟨_, rfl⟩
      rw [← hN]
      have HN := Lib.hid hN
      have hNb : N ≤ 4398046511104 := by omega
      clear hN
      go_wp2_with (go_at_call 49; refine (grow_nil N wr hNb).mono ?_; rintro e w1 ⟨v1, rfl, ho1, hk1⟩; obtain ⟨a1, c1, rfl⟩ := own_form' ho1)
      obtain ⟨wo, hwo⟩ : ∃ wo : World, wo = wr := ⟨_, rfl⟩
      subst hwo
      have hsz1 := hk1.size
      go_loopw [6, 27] (fun s6 s27 wr => ∃ k : Nat, k ≤ ls.length ∧ s27 = .int .i64 k ∧ Hid (Keeps wo wr) ∧ Hid (Own wr wo.heap.size 3 1 ci s6 (ls.take k).flatten)) (fun _ s27 _ => ls.length - (intOf s27).toNat)
      case atStart => exact ⟨0, Nat.zero_le _, rfl, Lib.hid hk1, Lib.hid ho1⟩
      case round =>
        obtain ⟨k, hk, rfl, HK, HO⟩ := hrel
        obtain ⟨a6, c6, e6⟩ := own_form' HO.out
        subst e6
        by_cases hlt : k < ls.length
        · have hltz : (k : Int) < (ls.length : Int) := by omega
          obtain ⟨b, off, rfl, hc⟩ := h3 (by omega)
          have c0 := HK.out.cell (hc k 0 hlt (by omega))
          have hT : Ints wr (tv k) (nth ls k) := (h4 k hlt).keep HK.out
          obtain ⟨ak, ck, ek⟩ := Arr.form hT
          rw [ek] at c0 hT
          have c1 : wr.cell? ⟨b, off + k, none⟩ = some (.slice ak (nth ls k).length ck) := by simpa using c0
          have HT := Lib.hid hT
          have hszk := HK.out.size
          clear c0 hc ek h3 hT
          go_wp2_with (at_builtin; refine wpList_onto (by rfl) (.tmp 31) (.tmp 32) 24 24 (by rfl) Try.underlying24 info_int (by rfl) (base := wo.heap.size) (f := ci) (l := (ls.take k).flatten) (by rfl) (by exact HO.out.keep (by repeat (with_reducible (first | assumption | exact Keeps.refl _ | refine Keeps.alloc ?_ _ | refine Keeps.drew ?_ | refine Keeps.drewN ?_ _ | refine Keeps.trans' ?_ (by assumption) (by assumption))))) (ys := nth ls k) (by rfl) (by exact src_arr (by decide) ci_len ci_one Try.underlying24 (ints_arr (HT.out.keep (by repeat (with_reducible (first | assumption | exact Keeps.refl _ | refine Keeps.alloc ?_ _ | refine Keeps.drew ?_ | refine Keeps.drewN ?_ _ | refine Keeps.trans' ?_ (by assumption) (by assumption))))))) (by have := HPRE.out k hlt; omega) (by have := HPRE.out k hlt; unfold maxLen; omega) (by first | omega | (simp only [sz_alloc]; omega) | (simp only [sz_drew]; omega) | (simp only [sz_alloc, sz_drew]; omega) | (simp only [sz_alloc, sz_drewN]; omega)) ?_; intro v7 w7 hown7 hbel7 hgr7 hfr7; obtain ⟨a7, c7, rfl⟩ := own_form' hown7; have HO7 := Lib.hid hown7; have HB7 := Lib.hid hbel7; clear hown7 hbel7 hgr7 hfr7)
          go_roundw
          case rel => exact ⟨k + 1, by omega, by go_num, Lib.hid (Keeps.trans' HK.out HB7.out (Nat.le_refl _)), Lib.hid (by rw [(HPRE.out k hlt).2.2]; have z := HO7.out; simp only [List.length_append, List.length_flatten, List.map_take] at z; exact z)⟩
          case measure => simp [intOf]; omega
        · obtain rfl : k = ls.length := by omega
          rw [List.take_length] at *
          go_wp2_with fail
          go_ret
          exact ⟨_, rfl, HO.out, HK.out⟩
end Go.Proofs.Ytofaghcnkppmbaa
