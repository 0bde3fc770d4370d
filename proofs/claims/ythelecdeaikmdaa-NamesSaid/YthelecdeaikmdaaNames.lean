/-
  The law Names: the error numbers, kinds and limits of package api are the document's. It has no argument; no condition.
-/
import Derived.Test.YthelecdeaikmdaaRows
import Derived.Test.YthelecdeaikmdaaOwn
import Derived.Test.YthelecdeaikmdaaTypes
import Derived.Test.YthelecdeaikmdaaLift
import Derived.Deep.QuietTactic
import Derived.BigQuiet
import Derived.Lib.Hide
namespace Go.Proofs.Ythelecdeaikmdaa.names
open Go.ChangeShapes Go.WideShapes Go.ChangeAt Go.RowKit BH

def first : List Int := [8, 8000, 2000, 40, 16, 20, 20, 64, 4000, 10000, 1099511627776, 100000, 100, 100000, 4000, 1073741824]
def second : List Int := [1, 2, 3, 4, 1, 2, 3, 4]
def third : List Int := [1, 2, 3, 4, 5, 6, 7, 8, 9, 10, 11, 12, 13, 14, 15, 16, 17, 18, 19, 20, 21, 22, 23, 24]
/-- what has been appended to 'want' ahead of round k
-/
def upto : Nat → List Int
  | 0 => first ++ second
  | k + 1 => upto k ++ [(k : Int) + 1]
theorem upto_len (k : Nat) : (upto k).length = 24 + k := by
  induction k with
  | zero => rfl
  | succ k ih => simp only [upto, List.length_append, ih, List.length_cons, List.length_nil]; omega
theorem upto_24 : upto 24 = first ++ second ++ third := rfl

set_option maxHeartbeats 1000000
set_option maxRecDepth 100000
theorem walk (w : World) :
    Calls Try.prog 3 #[] w fun e w' => e = .returned (.bool true) ∧ Keeps w w' := by
  go_enter Try.func3, Try.ntmps3
  go_wp2
  obtain ⟨w1, hw1⟩ : ∃ w1, w1 = w.alloc (.cells #[.int .i64 0, .int .i64 1, .int .i64 2, .int .i64 3, .int .i64 4, .int .i64 5, .int .i64 6, .int .i64 7, .int .i64 8, .int .i64 9] 22) := ⟨_, rfl⟩
  have hk1 : Keeps w w1 := by rw [hw1]; exact (Keeps.refl _).alloc _
  have hc : ∀ k : Nat, k < 10 → w1.cell? ⟨w.heap.size, k, none⟩ = some (.int .i64 k) := by
    intro k hk
    rw [hw1]
    match k, hk with
    | 0, _ | 1, _ | 2, _ | 3, _ | 4, _ | 5, _ | 6, _ | 7, _ | 8, _ | 9, _ => simp
  rw [← hw1]
  clear hw1
  go_loop [2] (fun i => ∃ k : Nat, k ≤ 10 ∧ i = .int .i64 k) (fun i => 10 - (intOf i).toNat)
  case atStart => exact ⟨0, Nat.zero_le _, rfl⟩
  case round =>
    obtain ⟨k, hk, rfl⟩ := hrel
    by_cases hlt : k < 10
    · have hck := hc k hlt
      clear hc
      go_wp2
      go_round
      case rel => exact ⟨k + 1, by omega, by go_num⟩
      case measure => simp [intOf]; omega
    · clear hc
      go_wp2_with (at_builtin; go_must (refine wpList_pushes rfl (.tmp 22) (.tmp 23) 24 rfl Try.underlying24 info_int rfl (by decide) (base := w1.heap.size) (f := ci) (l := first) rfl ?o1 second (w1.heap.size + 2) 8 rfl ?g1 ci_len ci_one (by decide) (by decide) ?b1 ?_))
      case o1 => exact Own.of_block ci_len (Nat.le_refl _) (by rw [heap_below _ _ _ (by simp; omega), heap_below _ _ _ (by simp), heap_top _ _ _ rfl]; rfl) (by decide)
      case b1 => omega
      case g1 => exact Blk.top' _ _ (by simp)
      intro v1 w2 ho1 hb1 hg1 hf1
      have hk2 : Keeps w1 w2 := ((((Keeps.refl w1).alloc _).alloc _).alloc _).trans' hb1 (Nat.le_refl _)
      have hs2 : w1.heap.size + 1 < w2.heap.size := by have := hb1.size; simp at this; omega
      have hwant : w2.heap[w1.heap.size + 1]? = some (.cells (first.flatMap ci).toArray 3 (0, 0)) := by
        rw [hg1.block _ (by simp) (by simp [Value.ownBlock]), heap_below _ _ _ (by simp), heap_top _ _ _ (by simp)]; rfl
      have howant : Own w2 w1.heap.size 3 1 ci (.slice (some ⟨w1.heap.size + 1, 0, none⟩) first.length first.length) first := Own.of_block ci_len (by omega) hwant (by decide)
      have hne1 : ∀ g, v1.ownBlock = some g → g ≠ w1.heap.size + 1 := by
        intro g hg e
        rcases hf1 g hg with h | h
        · simp [Value.ownBlock] at h; omega
        · (try simp at h); omega
      clear hg1 hwant hf1
      go_wp2_with (at_builtin; refine wpList_pushes rfl (.tmp 25) (.tmp 26) 24 rfl Try.underlying24 info_int rfl (by decide) (base := w1.heap.size) (f := ci) (l := first) rfl ?o2 second w2.heap.size 8 rfl ?g2 ci_len ci_one (by decide) (by decide) ?b2 ?_)
      case o2 => exact howant.keep ((Keeps.refl _).alloc _)
      case g2 => exact Blk.top _ _
      case b2 => exact Nat.le_trans hk2.size ((Keeps.refl w2).alloc _).size
      intro v2 w3 ho2 hb2 hg2 hf2
      have hk3 : Keeps w1 w3 := (hk2.alloc _).trans' hb2 (Nat.le_refl _)
      have ho1' : Own w3 w1.heap.size 3 1 ci v1 (first ++ second) := (ho1.keep ((Keeps.refl _).alloc _)).other hg2 (by intro g hg e; simp only [Value.ownBlock, Option.some.injEq] at e; exact hne1 g hg e)
      have hne2 : ∀ g, v2.ownBlock = some g → v1.ownBlock ≠ some g := by
        intro g hg h1
        rcases hf2 g hg with h | h
        · simp only [Value.ownBlock, Option.some.injEq] at h
          exact hne1 g h1 h.symm
        · have := ho1.lt g h1
          (try simp at h); omega
      clear hg2 hf2 howant ho1 hne1 hb1 hb2
      go_wp2_with (at_builtin; refine wpList_pushes rfl (.tmp 28) (.tmp 29) 24 rfl Try.underlying24 info_int rfl (by decide) (base := w1.heap.size) (f := ci) (l := first ++ second) rfl ?o3 third w3.heap.size 24 rfl ?g3 ci_len ci_one (by decide) (by decide) ?b3 ?_)
      case o3 => exact ho1'.keep ((Keeps.refl _).alloc _)
      case g3 => exact Blk.top _ _
      case b3 => exact Nat.le_trans hk3.size ((Keeps.refl w3).alloc _).size
      intro v3 w4 ho3 hb3 hg3 hf3
      have hk4 : Keeps w1 w4 := (hk3.alloc _).trans' hb3 (Nat.le_refl _)
      have ho2' : Own w4 w1.heap.size 3 1 ci v2 (upto 0) := (ho2.keep ((Keeps.refl _).alloc _)).other hg3 (by intro g hg e; exact hne2 g hg e.symm)
      have hne3 : ∀ g, v3.ownBlock = some g → v2.ownBlock ≠ some g := by
        intro g hg h1
        rcases hf3 g hg with h | h
        · exact hne2 g h1 h
        · have := ho2.lt g h1
          (try simp at h); omega
      clear hg3 hf3 hne2 ho1' ho2 hb3
      obtain ⟨w0, hw0⟩ : ∃ w0 : World, w0 = w4 := ⟨_, rfl⟩
      have hl3 := ho3.lt
      go_wp2
      go_loopw [4, 5] (fun v i wr => ∃ k : Nat, k ≤ 24 ∧ i = .int .i64 ((k : Int) + 1) ∧ Own wr w1.heap.size 3 1 ci v (upto k) ∧ Own wr w1.heap.size 3 1 ci v3 (first ++ second ++ third) ∧ (∀ g, v3.ownBlock = some g → v.ownBlock ≠ some g) ∧ Keeps w wr ∧ w1.heap.size ≤ wr.heap.size) (fun _ i _ => 25 - (intOf i).toNat)
      case atStart => exact ⟨0, by omega, rfl, ho2', ho3, hne3, hk1.trans hk4, hk4.size⟩
      case round =>
        obtain ⟨k, hk', rfl, hov, ho, hne, hkeep, hsz⟩ := hrel
        by_cases hlt' : k < 24
        · go_wp2_with (at_builtin; refine wpList_push rfl (.tmp 35) (.tmp 37) 24 rfl Try.underlying24 info_int rfl (by decide) (base := w1.heap.size) (f := ci) (l := upto k) rfl ?o4 ((k : Int) + 1) wr.heap.size 1 rfl ?g4 ci_len ci_one ?d4 ?e4 ?b4 ?_)
          case o4 => exact hov.keep ((Keeps.refl _).alloc _)
          case g4 => exact Blk.top' _ _ (by simp)
          case d4 => rw [upto_len]; omega
          case e4 => rw [upto_len]; unfold maxLen; omega
          case b4 => exact Nat.le_trans hsz ((Keeps.refl wr).alloc _).size
          intro v' w5 hov' hb5 hg5 hf5
          have hkeep' : Keeps w w5 := (hkeep.alloc _).trans' hb5 hk1.size
          have hsz' : w1.heap.size ≤ w5.heap.size := Nat.le_trans hsz (Nat.le_trans ((Keeps.refl wr).alloc _).size hb5.size)
          have ho' : Own w5 w1.heap.size 3 1 ci v3 (first ++ second ++ third) := (ho.keep ((Keeps.refl _).alloc _)).other hg5 (by intro g hg e; exact hne g hg e.symm)
          have hne' : ∀ g, v3.ownBlock = some g → v'.ownBlock ≠ some g := by
            intro g hg h1
            rcases hf5 g h1 with h | h
            · exact hne g hg h
            · have := ho.lt g hg
              (try simp at h); omega
          clear hf5 hg5 hb5
          go_wp2
          go_roundw
          case rel => exact ⟨k + 1, by omega, by go_num, hov', ho', hne', hkeep', hsz'⟩
          case measure => simp [intOf]; omega
        · obtain rfl : k = 24 := by omega
          rw [upto_24] at hov
          have hA : Ints wr v3 (first ++ second ++ third) := ho.ints
          have hB : Ints wr u4 (first ++ second ++ third) := hov.ints
          clear ho hov hne ho3 ho2' hl3 hne3
          obtain ⟨L, hL⟩ : ∃ L : List Int, L = first ++ second ++ third := ⟨_, rfl⟩
          have hlen : L.length = 48 := by rw [hL]; rfl
          rw [← hL] at hA hB
          have Hlen := Lib.hid hlen
          clear hL hlen
          obtain ⟨ao, ca, rfl, a1, a2, -, a3⟩ := hA
          obtain ⟨bo, cb, rfl, b1, b2, -, b3⟩ := hB
          have hn : L.length ≤ 48 := by rw [Hlen.out]; omega
          clear Hlen
          go_wp2
          go_loopw [6] (fun i wx => ∃ k : Nat, k ≤ L.length ∧ i = .int .i64 k ∧ Keeps wr wx) (fun i _ => L.length - (intOf i).toNat)
          case atStart => exact ⟨0, by omega, rfl, Keeps.refl _⟩
          case round =>
            obtain ⟨k, hk', rfl, hkx⟩ := hrel
            by_cases hlt' : k < L.length
            · obtain ⟨ab, af, rfl, ac⟩ := a3 (by omega)
              obtain ⟨bb, bf, rfl, bc⟩ := b3 (by omega)
              have c1 := hkx.cell (ac k 0 hlt' (by omega))
              have c2 := hkx.cell (bc k 0 hlt' (by omega))
              simp only [Nat.mul_one, Nat.add_zero] at c1 c2
              clear a3 b3 ac bc
              go_wp2
              go_quiet (fail)
              go_wp2
              go_roundw
              case rel => exact ⟨k + 1, by omega, by go_num, hkx.drewN _⟩
              case measure => simp [intOf]; omega
            · clear a3 b3
              go_wp2
              go_ret
              exact ⟨rfl, hkeep.trans hkx⟩

theorem own : ownKnob Try.prog.godebug = none := by kernel_rfl
theorem laidOut : laidOutB Try.prog = true := by kernel_rfl
theorem lifted (os : Os) (started : os.Started) (H : Type) (enc : TypeId × Value → H) :
    ReturnsInHanded {} Try.checked os 3 .any (Rows.namesSpec.pre6 enc Try.prog Try.f3 Rows.namesRow.domain false) (Rows.namesSpec.post enc Try.prog Try.f3 false true false false) := by
  refine returnsInHanded_of_change_sized (C := Try.checked) own started (by kernel_rfl) Try.func3
    (ChangeSpec.witness6 (enc := enc) (C := Try.checked) false ⟨#[], #[], []⟩ 8 (by kernel_rfl) (by kernel_rfl) (by kernel_rfl) (by kernel_rfl)) ?_
  intro W base args ds gs before hval0 hW _ hsz _
  have hW' := hW
  obtain ⟨p, q, hA0, hV, rfl, hfz, hnd⟩ := hW
  have hA : DataW.TrodAll enc Try.prog W 0 (fun _ => true) true Try.f3.params.toList args.toList ds p := hA0
  rw [Try.params3] at hA
  obtain ⟨hargs, rfl, rfl⟩ := trodAll_nil hA
  obtain ⟨rfl, rfl⟩ := trodVars_none hV
  obtain rfl : args = #[] := by cases args; simp_all
  refine (walk W).mono fun e W' ⟨he, hk⟩ => ?_
  subst he
  exact ⟨_, rfl, law_post laidOut (by rw [Try.params3]; intro t ht; cases ht) rfl Try.underlying4 rfl rfl rfl rfl hW' hk⟩

theorem holds : Rows.NamesSaid :=
  OpenClaim.holds_of_wide 3 Try.f3 rfl rfl rfl rfl rfl rfl rfl ⟨rfl, rfl, rfl, rfl, rfl⟩ rfl rfl rfl rfl rfl (by kernel_rfl) Try.func3 (by kernel_rfl)
    (of_decide_eq_true (by kernel_rfl)) (by unfold Func.isWrapper; first | (rw [if_pos (by decide +kernel)]; kernel_rfl) | (rw [if_neg (by decide +kernel)]; exact ⟨rfl, rfl⟩))
    (fun os started H enc _ => lifted os started H enc)
end Go.Proofs.Ythelecdeaikmdaa.names
