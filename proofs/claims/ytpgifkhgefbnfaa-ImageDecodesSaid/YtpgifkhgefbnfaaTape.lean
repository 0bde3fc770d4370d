/-
  The document's tape: next and num.
-/
import Derived.Test.YtpgifkhgefbnfaaReader
import Derived.Test.YtpgifkhgefbnfaaEncode
import Derived.Deep.QuietTactic
import Derived.BigQuiet
import Derived.Deep.RegionLaw
namespace Go.Proofs.Ytpgifkhgefbnfaa
open Go.RowKit BH
set_option maxHeartbeats 4000000
set_option maxRecDepth 100000
def TpIs (N i : Nat) (bad : Bool) (l0 : List UInt8) : PS → Prop
  | none => bad = true
  | some l => bad = false ∧ i ≤ N ∧ l = l0.drop i
/-- the tape lies in block g: what is left to read is p; the bytes, l0, lie in W0 -/
def TpAt (W0 : World) (g : Nat) (l0 : List UInt8) (p : PS) (w : World) : Prop :=
  ∃ (a : Option Addr) (c i : Nat) (bad : Bool), Blk w g (.cells #[.slice a l0.length c, .int .i64 i, .bool bad] 72) ∧ W0.heap.size ≤ g ∧ Bytes W0 (.slice a l0.length c) l0 ∧ TpIs l0.length i bad l0 p
theorem TpAt.grown {W0 : World} {g : Nat} {l0 : List UInt8} {p : PS} {w w' : World} (h : TpAt W0 g l0 p w) {r : Option Nat} (hg : w.grownBy w' r) (hne : r ≠ some g) : TpAt W0 g l0 p w' := by
  obtain ⟨a, c, i, o, hb, h2, h3⟩ := h
  exact ⟨a, c, i, o, hb.grown hg (fun e => hne e.symm), h2, h3⟩

theorem bytes_made (w : World) (b : Nat) : Bytes w (.slice (some ⟨b, 0, none⟩) 0 0) [] := ⟨_, 0, rfl, Nat.le_refl _, by unfold maxLen; omega, fun _ => rfl, fun h => absurd h (Nat.lt_irrefl _)⟩
theorem bytes_zero (w : World) (p : Addr) : Bytes w (.slice (some p) 0 0) [] := ⟨_, 0, rfl, Nat.le_refl _, by unfold maxLen; omega, fun _ => rfl, fun h => absurd h (Nat.lt_irrefl _)⟩
theorem new_made (w : World) (n : Nat) : NewAt w.heap.size (.slice (some ⟨w.heap.size, 0, none⟩) 0 n) := fun g h => by cases h; exact Nat.le_refl _
theorem grown_made (w : World) (n g : Nat) (o : Obj) : w.grownBy (((w.drewN n).setCell ⟨g, 2, none⟩ (.bool true)).alloc o) (some g) :=
  (((Keeps.refl w).drewN n).grown _).trans ((grown_setCell (w.drewN n) g 2 (.bool true)).trans (((Keeps.refl _).alloc o).grown _))
theorem tape_bad {W0 w : World} {g n c i : Nat} {a : Option Addr} {o : Bool} {l0 : List UInt8} {e : TypeId} (hb : Blk w g (.cells #[.slice a l0.length c, .int .i64 i, .bool o] 72)) (hg : W0.heap.size ≤ g) (hl : Bytes W0 (.slice a l0.length c) l0) :
    TpAt W0 g l0 none (((w.drewN n).setCell ⟨g, 2, none⟩ (.bool true)).alloc (.cells #[] e)) :=
  TpAt.grown ⟨a, c, i, true, Blk.set (hb.keep ((Keeps.refl w).drewN n)) 2 _, hg, hl, rfl⟩ (((Keeps.refl _).alloc _).grown none) (fun e => by cases e)
theorem tape_ok {W0 w w5 wx w7 : World} {g i k m c : Nat} {a : Option Addr} {l0 LS : List UInt8} {v7 : Value} {e : TypeId} (hB : Blk w5 g (.cells #[.slice a l0.length c, .int .i64 m, .bool false] 72)) (hG : W0.heap.size ≤ g) (hL : Bytes W0 (.slice a l0.length c) l0) (hg5 : w.grownBy w5 (some g)) (hM : m = i + k) (m2 : m ≤ l0.length) (hown : Own w7 w5.heap.size e 1 cb v7 ([] ++ LS)) (hkx : Keeps w5 wx) (hgr : wx.grownBy w7 none) (hs : w.heap.size ≤ w5.heap.size) :
    ∃ v', Ending.returned v7 = .returned v' ∧ Bytes w7 v' LS ∧ NewAt w.heap.size v' ∧ w.grownBy w7 (some g) ∧ TpAt W0 g l0 (some ((l0.drop i).drop k)) w7 := by
  rw [List.nil_append] at hown
  refine ⟨_, rfl, hown.bytes, fun b hb => Nat.le_trans hs (hown.lt b hb).1, hg5.trans ((hkx.grown _).trans (⟨hgr.1, hgr.2, hgr.3, hgr.4, fun r hr _ => hgr.5 r hr (fun e => by cases e)⟩)), a, c, m, false, (hB.keep hkx).grown hgr (fun e => by cases e), hG, hL, rfl, m2, ?_⟩
  rw [List.drop_drop, hM]
theorem next_any (W0 : World) (g : Nat) (l0 : List UInt8) (n : Int) (p : PS) (w : World) (hk : Keeps W0 w) (hr : TpAt W0 g l0 p w) (hl0 : l0.length ≤ 100000) (h0 : 0 ≤ n) (h1 : n ≤ 100000) :
    Calls Try.prog 30 #[.pointer (some ⟨g, 0, none⟩), .int .i64 n] w fun e w' => ∃ v', e = .returned v' ∧ Bytes w' v' (tk n p).1 ∧ NewAt w.heap.size v' ∧ w.grownBy w' (some g) ∧ TpAt W0 g l0 (tk n p).2 w' := by
  obtain ⟨a, c, i, o, hb, hg, hl, hp⟩ := hr
  have g0 := hb.cell (j := 0) rfl
  have g1 := hb.cell (j := 1) rfl
  have g2 := hb.cell (j := 2) rfl
  have f1 := hb.thawed 1
  have f2 := hb.thawed 2
  have hgl := hb.lt
  have HB := Lib.hid hb
  have HG := Lib.hid hg
  have HL := Lib.hid hl
  obtain ⟨k, rfl⟩ : ∃ k : Nat, n = k := ⟨n.toNat, by omega⟩
  have hmk : ∀ w, (Instr.makeSlice 22 (.int .i64 0) (.int .i64 0)).run Try.prog w = .ok (.slice (some ⟨w.heap.size, 0, none⟩) 0 0) (w.alloc (.cells #[] 5)) := fun _ => by kernel_rfl
  cases p with
  | none =>
    have hp : o = true := hp
    subst hp
    clear hb hk hl
    go_enter Try.func30, Try.ntmps30
    go_wp2_with fail
    go_quiet (fail)
    go_wp2_with fail
    go_ret
    exact ⟨_, rfl, bytes_made _ _, new_made _ _, grown_made _ _ _ _, tape_bad HB.out HG.out HL.out⟩
  | some l =>
    obtain ⟨rfl, hi, rfl⟩ := (show o = false ∧ i ≤ l0.length ∧ l = l0.drop i from hp)
    obtain ⟨a', c', ev, q1, q2, q3, q4⟩ := id hl
    injection ev with e1 e2 e3
    subst e1 e3
    clear e2
    unfold maxLen at q2
    have a0 := q3
    have hi' := hi
    have hdl : (l0.drop i).length = l0.length - i := List.length_drop
    have s1 : IntKind.i64.wrap ((i : Int) + (k : Int)) = (i : Int) + k := IntWalk.i64_in _ (by omega)
    rcases Int.lt_or_le ((l0.drop i).length : Int) (k : Int) with hn | hn
    · rw [tk_few hn]
      rw [hdl] at hn
      have t1 : decide ((l0.length : Int) < (i : Int) + (k : Int)) = true := by simp; omega
      clear hb hk hp hl q3 q4 hdl
      go_enter Try.func30, Try.ntmps30
      go_wp2_with fail
      go_quiet (fail)
      go_wp2_with fail
      go_ret
      exact ⟨_, rfl, bytes_made _ _, new_made _ _, grown_made _ _ _ _, tape_bad HB.out HG.out HL.out⟩
    · rw [tk_ok hn]
      rw [Int.toNat_natCast]
      rw [hdl] at hn
      obtain ⟨LS, hLS⟩ : ∃ L, L = (l0.drop i).take k := ⟨_, rfl⟩
      simp only [← hLS]
      have hlen : LS.length ≤ 100000 := by rw [hLS, List.length_take]; omega
      have HLS := Lib.hid hLS
      clear hLS
      have t1 : decide ((l0.length : Int) < (i : Int) + (k : Int)) = false := by simp; omega
      have HK := Lib.hid hk
      clear hb hk hp hl q3 q4 hdl
      go_enter Try.func30, Try.ntmps30
      go_wp2_with fail
      go_quiet (fail)
      go_upto_region 5 with fail
      obtain ⟨w5, hw5⟩ : ∃ w5, w5 = (w.drewN nq).setCell ⟨g, 1, none⟩ (.int .i64 ((i : Int) + k)) := ⟨_, rfl⟩
      rw [← hw5]
      obtain ⟨m, hm⟩ : ∃ m, m = i + k := ⟨_, rfl⟩
      have hB5 : Blk w5 g (.cells #[.slice a l0.length c, .int .i64 m, .bool false] 72) := by
        rw [hw5, hm]
        exact Blk.set (HB.out.keep ((Keeps.refl w).drewN nq)) 1 _
      have hg5 : w.grownBy w5 (some g) := by rw [hw5]; exact (((Keeps.refl w).drewN nq).grown _).trans (grown_setCell _ _ _ _)
      have hk5 : Keeps W0 w5 := by rw [hw5]; exact (HK.out.drewN nq).setCell HG.out _
      have hs5 := hg5.size
      have s2 : IntKind.i64.wrap ((m : Int) - (k : Int)) = i := IntWalk.i64_in _ (by omega) |>.trans (by omega)
      have m1 : i ≤ m := by omega
      have m2 : m ≤ l0.length := by omega
      have m3 : m ≤ c := by omega
      have c0 := hB5.cell (j := 0) rfl
      have c1 := hB5.cell (j := 1) rfl
      have hgl5 := hB5.lt
      have HM := Lib.hid hm
      have HB5 := Lib.hid hB5
      have HG5 := Lib.hid hg5
      have HK5 := Lib.hid hk5
      clear hw5 hm hB5 hg5 hk5 g0 g1 g2 f1 f2 hgl s1 t1 hmk hi
      cases a with
      | none =>
        obtain rfl : c = 0 := a0 rfl
        obtain rfl : i = 0 := by omega
        obtain rfl : k = 0 := by omega
        obtain rfl : m = 0 := by omega
        have s3 : IntKind.i64.wrap (0 : Int) = 0 := rfl
        have hS : Bytes W0 (.slice none 0 0) LS := by rw [HLS.out]; exact bytes_nil _
        have HS := Lib.hid hS
        clear hS
        go_region_law ((refine step_onto (by rfl) (.const (.slice none 0 0)) (.tmp 50) 22 22 (by rfl) Try.underlying22 info_u8 (by rfl) (base := w5.heap.size) (f := cb) (v := .slice none 0 0) (l := []) (by rfl) (Own.nil _ _ _ _ _) (ys := LS) (by rfl) (by exact src_arr (by decide) cb_len cb_one Try.underlying22 (bytes_arr (HS.out.keep (HK5.out.trans (by repeat (with_reducible (first | assumption | exact Keeps.refl _ | refine Keeps.alloc ?_ _ | refine Keeps.drew ?_ | refine Keeps.drewN ?_ _))))))) (by simp only [List.length_nil]; omega) (by simp only [List.length_nil]; unfold maxLen; omega) (by first | omega | (simp only [sz_drew]; omega) | (simp only [sz_drewN]; omega)) ?_; intro v7 w7 hown7 hbel7 hgr7 hfr7))
        all_goals (go_wp2_with fail; go_ret; exact tape_ok (i := 0) (k := 0) HB5.out HG.out HL.out HG5.out rfl m2 hown7 (by repeat (with_reducible (first | assumption | exact Keeps.refl _ | refine Keeps.alloc ?_ _ | refine Keeps.drew ?_ | refine Keeps.drewN ?_ _))) hgr7 (by omega))
      | some p =>
        by_cases hc : c = i
        · subst hc
          obtain rfl : k = 0 := by omega
          obtain rfl : m = c := by omega
          have s3 : IntKind.i64.wrap (m : Int) = (m : Int) := IntWalk.i64_in _ (by omega)
          have hS : Bytes W0 (.slice (some p) 0 0) LS := by rw [HLS.out, List.take_zero]; exact bytes_zero _ _
          have HS := Lib.hid hS
          clear hS
          go_region_law ((refine step_onto (by rfl) (.const (.slice none 0 0)) (.tmp 50) 22 22 (by rfl) Try.underlying22 info_u8 (by rfl) (base := w5.heap.size) (f := cb) (v := .slice none 0 0) (l := []) (by rfl) (Own.nil _ _ _ _ _) (ys := LS) (by rfl) (by exact src_arr (by decide) cb_len cb_one Try.underlying22 (bytes_arr (HS.out.keep (HK5.out.trans (by repeat (with_reducible (first | assumption | exact Keeps.refl _ | refine Keeps.alloc ?_ _ | refine Keeps.drew ?_ | refine Keeps.drewN ?_ _))))))) (by simp only [List.length_nil]; omega) (by simp only [List.length_nil]; unfold maxLen; omega) (by first | omega | (simp only [sz_drew]; omega) | (simp only [sz_drewN]; omega)) ?_; intro v7 w7 hown7 hbel7 hgr7 hfr7))
          all_goals (go_wp2_with fail; go_ret; exact tape_ok HB5.out HG.out HL.out HG5.out HM.out m2 hown7 (by repeat (with_reducible (first | assumption | exact Keeps.refl _ | refine Keeps.alloc ?_ _ | refine Keeps.drew ?_ | refine Keeps.drewN ?_ _))) hgr7 (by omega))
        · have hc2 : ¬ (c - i = 0) := by omega
          have hS : Bytes W0 (.slice (some (p.add i)) (m - i) (c - i)) LS := by
            have h := bytes_take (bytes_drop HL.out (k := i) hi') (k := k) (by rw [List.length_drop]; omega)
            rw [HLS.out, show m - i = k by rw [HM.out]; omega]
            exact h
          have HS := Lib.hid hS
          clear hS
          go_region_law ((refine step_onto (by rfl) (.const (.slice none 0 0)) (.tmp 50) 22 22 (by rfl) Try.underlying22 info_u8 (by rfl) (base := w5.heap.size) (f := cb) (v := .slice none 0 0) (l := []) (by rfl) (Own.nil _ _ _ _ _) (ys := LS) (by rfl) (by exact src_arr (by decide) cb_len cb_one Try.underlying22 (bytes_arr (HS.out.keep (HK5.out.trans (by repeat (with_reducible (first | assumption | exact Keeps.refl _ | refine Keeps.alloc ?_ _ | refine Keeps.drew ?_ | refine Keeps.drewN ?_ _))))))) (by simp only [List.length_nil]; omega) (by simp only [List.length_nil]; unfold maxLen; omega) (by first | omega | (simp only [sz_drew]; omega) | (simp only [sz_drewN]; omega)) ?_; intro v7 w7 hown7 hbel7 hgr7 hfr7))
          all_goals (go_wp2_with fail; go_ret; exact tape_ok HB5.out HG.out HL.out HG5.out HM.out m2 hown7 (by repeat (with_reducible (first | assumption | exact Keeps.refl _ | refine Keeps.alloc ?_ _ | refine Keeps.drew ?_ | refine Keeps.drewN ?_ _))) hgr7 (by omega))
end Go.Proofs.Ytpgifkhgefbnfaa
