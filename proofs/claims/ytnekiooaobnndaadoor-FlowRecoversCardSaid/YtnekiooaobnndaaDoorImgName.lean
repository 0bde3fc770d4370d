/-
 image.name and the document's NameMay: may a function be called so?
-/
import Derived.Test.YtnekiooaobnndaaDoorMapEnt
import Derived.Test.YtnekiooaobnndaaDoorRegHead
import Derived.Laws.IdiomStrings
import Derived.Lib.Hide
set_option linter.all false
namespace Go.Proofs.YtnekiooaobnndaaDoor
open Go.RowKit BH
set_option maxHeartbeats 1000000
set_option maxRecDepth 100000

theorem nmByte_eq (s : ByteArray) (k : Nat) (h : k < s.size) : nmByte s k = (s[k].toNat : Int) := by
 unfold nmByte
 rw [nth_eq _ _ (by simpa using h)]
 rfl
/-- '[]byte(s)': a slice of its own -/
theorem run_bytes_arr {P : Program} (w : World) (src dst e : TypeId) (s : ByteArray) (hs : P.underlying src = some .string) (hd : P.underlying dst = some (.slice e)) (he : P.underlying e = some (.int .u8)) (hsz : s.size ≤ maxLen) :
  ∃ v w', (convert src dst (.string s)).run P w = .ok v w' ∧ Arr w' v s.size 1 (fun i _ => .int .u8 (nmByte s i)) ∧ Keeps w w' := by
 refine ⟨_, _, run_bytes_of_string w src dst e s hs hd he, ?_, ((Keeps.refl w).drew).alloc _⟩
 refine ⟨_, _, rfl, ?_, ?_, (fun h => by cases h), fun _ => ⟨w.heap.size, 0, rfl, fun i j hi hj => ?_⟩⟩
 ·exact grownCap_ge _ _ _ _
 ·exact grownCap_le_maxLen _ _ _ _ hsz
 ·obtain rfl : j = 0 := by omega
  rw [show w.heap.size = w.drew.heap.size from rfl, World.cell?_alloc_mark]
  simp only []
  rw [nmByte_eq s i hi]
  unfold bytesRow
  rw [Array.getElem?_append_left (by simpa using hi)]
  simp [hi]
  rfl

theorem ret_bool {a b : Bool} (h : a = b) : Ending.returned (.bool a) = .returned (.bool b) := by rw [h]
theorem nameCh_any (c : Int) (w : World) : Calls Tryd.prog 79 #[.int .u8 c] w fun e w' => e = .returned (.bool (!chOk c)) ∧ w = w' := by
 have HC := Lib.hid (show chOk c = decide ((97 ≤ c ∧ c ≤ 122) ∨ (48 ≤ c ∧ c ≤ 57) ∨ c = 95 ∨ c = 46) from rfl)
 generalize chOk c = q at HC ⊢
 go_enter Tryd.func79, Tryd.ntmps79
 go_wp2
 all_goals
  go_ret
  refine ⟨?_, rfl⟩
  refine ret_bool ?_
  rw [HC.out, Bool.eq_iff_iff]
  simp
  try omega

theorem nameOk_no (s : ByteArray) (h : ¬ (1 ≤ s.size ∧ s.size ≤ 16)) : nameOk s = false := by
 unfold nameOk; rw [decide_eq_false h]; rfl
theorem nameOk_yes (s : ByteArray) (h : 1 ≤ s.size ∧ s.size ≤ 16) : nameOk s = !(anyN (fun i => !chOk (nmByte s i)) s.size) := by
 unfold nameOk; rw [decide_eq_true h]; rfl
theorem name_any (s : ByteArray) (w : World) : Calls Tryd.prog 65 #[.string s] w fun e w' => e = .returned (.bool (nameOk s)) ∧ Keeps w w' := by
 have eg : ∀ args w, (callFunc 79 args).run Tryd.prog w = .ok (.enter 79 args) w := enters_of Tryd.func79 (by kernel_rfl) rfl
 have EG := Lib.hid eg
 clear eg
 by_cases h0 : s.size = 0
 ·have HN := Lib.hid (nameOk_no s (by omega))
  have he : s = ByteArray.empty := by
   obtain ⟨⟨l⟩⟩ := s
   cases l with
   | nil => rfl
   | cons a r => simp [ByteArray.size] at h0
  subst he
  go_enter Tryd.func65, Tryd.ntmps65
  go_wp2
  go_ret
  exact ⟨ret_bool HN.out.symm, Keeps.refl _⟩
 ·by_cases h1 : 16 < s.size
  ·have HN := Lib.hid (nameOk_no s (by omega))
   go_enter Tryd.func65, Tryd.ntmps65
   go_wp2
   all_goals
    go_ret
    exact ⟨ret_bool HN.out.symm, Keeps.refl _⟩
  ·have HN := Lib.hid (nameOk_yes s (by omega))
   have hne : s.toList.isEmpty = false := by
    rw [ByteArray.toList_eq]
    cases hl : s.data.toList with
    | nil => exact absurd (show s.size = 0 by rw [← ByteArray.size_data, ← Array.length_toList, hl]; rfl) h0
    | cons _ _ => rfl
   have hne2 : ¬ s.toList = [] := by intro h; rw [h] at hne; cases hne
   have h2 : decide (16 < (s.size : Int)) = false := by simp; omega
   obtain ⟨bv, W1, hrun, ha, hk⟩ := run_bytes_arr (P := Tryd.prog) w 9 22 5 s Tryd.underlying9 Tryd.underlying22 Tryd.underlying5 (by unfold maxLen; omega)
   have hp : PredIn Tryd.prog 79 #[] s.size (fun i => .int .u8 (nmByte s i)) (fun i => !chOk (nmByte s i)) W1 :=
    fun W i hi hW => (nameCh_any (nmByte s i) W).mono fun e w' ⟨he, hw⟩ => ⟨he, hw ▸ Keeps.refl _⟩
   have HC := Lib.hid (containsFunc_u8 bv s.size (fun i _ => .int .u8 (nmByte s i)) (fun i => !chOk (nmByte s i)) 79 #[] W1 ha EG.out hp)
   clear hp ha
   generalize anyN (fun i => !chOk (nmByte s i)) s.size = q at HN HC
   go_enter Tryd.func65, Tryd.ntmps65
   go_wp2_with fail
   refine HC.out.mono ?_
   rintro e w1 ⟨rfl, hk1⟩
   go_wp2
   go_ret
   exact ⟨ret_bool (by rw [HN.out]), hk.trans hk1⟩

theorem nameMay_any (s : ByteArray) (w : World) : Calls Tryd.prog 51 #[.string s] w fun e w' => e = .returned (.bool (nameOk s)) ∧ w = w' := by
 by_cases h1 : 1 ≤ s.size ∧ s.size ≤ 16
 ·have HN := Lib.hid (nameOk_yes s h1)
  obtain ⟨h2, h3⟩ := h1
  go_enter Tryd.func51, Tryd.ntmps51
  go_wp2_with (go_at_call 23; refine (in_yes _ _ _ _ (by omega) (by omega)).mono ?_; rintro e w' ⟨rfl, rfl⟩)
  go_loop [3, 4] (fun i _ => ∃ k : Nat, k ≤ s.size ∧ i = .int .i64 k ∧ Hid (∀ j, j < k → chOk (nmByte s j) = true)) (fun i _ => s.size - (intOf i).toNat)
  case atStart => exact ⟨0, Nat.zero_le _, rfl, fun j hj => absurd hj (Nat.not_lt_zero _)⟩
  case round =>
   obtain ⟨k, hk, rfl, hok⟩ := hrel
   by_cases hlt : k < s.size
   ·have hb := nmByte_eq s k hlt
    have HB := Lib.hid hb
    clear hb
    by_cases hc : (97 ≤ (s[k].toNat : Int) ∧ (s[k].toNat : Int) ≤ 122) ∨ (48 ≤ (s[k].toNat : Int) ∧ (s[k].toNat : Int) ≤ 57) ∨ (s[k].toNat : Int) = 95 ∨ (s[k].toNat : Int) = 46
    ·have HK := Lib.hid (show chOk (nmByte s k) = true by rw [HB.out]; exact decide_eq_true hc)
     have HC := Lib.hid hc
     clear hc
     go_wp2
     all_goals first
      | (go_round
         case rel => exact ⟨k + 1, by omega, by go_num, fun j hj => (by
          by_cases e : j = k
          ·subst e; exact HK.out
          ·exact hok.out j (by omega))⟩
         case measure => simp [intOf]; omega)
      | (exfalso; have hcc := HC.out; simp only [Bool.not_eq_true', decide_eq_false_iff_not, beq_eq_false_iff_ne, ne_eq] at *; omega)
    ·have HR := Lib.hid (show nameOk s = false by
      rw [HN.out, anyN_yes (k := k) hlt]
      ·rfl
      ·show (!chOk (nmByte s k)) = true
       rw [HB.out]
       show (!decide _) = true
       rw [decide_eq_false hc]
       rfl)
     have HC := Lib.hid hc
     clear hc
     go_wp2
     all_goals first
      | (go_ret
         exact ⟨ret_bool HR.out.symm, rfl⟩)
      | (exfalso; have hcc := HC.out; simp only [Bool.not_eq_false', decide_eq_true_eq, beq_iff_eq] at *; omega)
   ·go_wp2
    go_ret
    refine ⟨ret_bool ?_, rfl⟩
    rw [HN.out, anyN_no (fun j hj => by rw [hok.out j (by omega)]; rfl)]
    rfl
 ·have HN := Lib.hid (nameOk_no s h1)
  go_enter Tryd.func51, Tryd.ntmps51
  go_wp2_with (go_at_call 23; refine (in_no _ _ _ _ (by omega)).mono ?_; rintro e w' ⟨rfl, rfl⟩)
  go_ret
  exact ⟨ret_bool HN.out.symm, rfl⟩
end Go.Proofs.YtnekiooaobnndaaDoor
