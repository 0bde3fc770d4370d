/-
  Numbers of a machine, folded: step.fold and the document's folded; products; what both compute.
  isa.Check and the document's InstrFault: one contract each, for every instruction.
  image.name and the document's NameMay: may a function be called so?
-/
import Derived.Test.YtpgifkhgefbnfaaDoorLift
import Derived.Test.YtpgifkhgefbnfaaDoorFoot
import Derived.Lib.Hide
import Derived.IntWalk
import Derived.Test.YtpgifkhgefbnfaaDoorIsaCheck1
import Derived.Test.YtpgifkhgefbnfaaDoorIsaCheck2
import Derived.Test.YtpgifkhgefbnfaaDoorIsaCheck3
import Derived.Test.YtpgifkhgefbnfaaDoorIsaFault1
import Derived.Test.YtpgifkhgefbnfaaDoorIsaFault2
import Derived.Test.YtpgifkhgefbnfaaDoorIsaFault3
import Derived.Test.YtpgifkhgefbnfaaDoorIsaLaid
import Derived.Laws.IdiomStrings
section
namespace Go.Proofs.YtpgifkhgefbnfaaDoor
open Go.RowKit BH
set_option maxHeartbeats 1000000
set_option maxRecDepth 100000
/-- a number within 41 bits and a sign -/
def foldN (n : Int) : Int := (n + 1099511627776) % 2199023255553 - 1099511627776
def InM (n : Int) : Prop := -1099511627776 ≤ n ∧ n ≤ 1099511627776
theorem foldN_in (n : Int) : InM (foldN n) := by unfold InM foldN; omega
theorem foldN_same {n : Int} (h : InM n) : foldN n = n := by unfold InM at h; unfold foldN; omega
theorem foldN_neg (n : Int) : foldN (-n) = -foldN n := by unfold foldN; omega
theorem foldN_add (n k : Int) : foldN (n + 2199023255553 * k) = foldN n := by unfold foldN; omega
theorem foldN_eq (n : Int) : ∃ k, foldN n = n + 2199023255553 * k := ⟨-((n + 1099511627776) / 2199023255553), by unfold foldN; omega⟩
theorem foldN_cong {a b : Int} (h : ∃ k, a = b + 2199023255553 * k) : foldN a = foldN b := by obtain ⟨k, rfl⟩ := h; exact foldN_add b k
theorem tmod_fold (n t : Int) (ht : t = (n + 1099511627776).tmod 2199023255553) : -2199023255553 < t ∧ t < 2199023255553 ∧ (t < 0 → t + 2199023255553 - 1099511627776 = foldN n) ∧ (0 ≤ t → t - 1099511627776 = foldN n) := by
  unfold foldN
  rcases Int.lt_or_le (n + 1099511627776) 0 with h | h
  · have e : (n + 1099511627776).tmod 2199023255553 = -((-(n + 1099511627776)) % 2199023255553) := by
      rw [← Int.tmod_eq_emod_of_nonneg (by omega), Int.neg_tmod]; omega
    rw [e] at ht
    omega
  · rw [Int.tmod_eq_emod_of_nonneg h] at ht
    omega
theorem fold_any (n : Int) (w : World) (h1 : -4611686018427387904 ≤ n) (h2 : n ≤ 4611686018427387904) :
    Calls Tryd.prog 69 #[.int .i64 n] w fun e w' => e = .returned (.int .i64 (foldN n)) ∧ w = w' := by
  obtain ⟨t, ht⟩ : ∃ t, t = (n + 1099511627776).tmod 2199023255553 := ⟨_, rfl⟩
  obtain ⟨b1, b2, b3, b4⟩ := tmod_fold n t ht
  have ht' : (n + 1099511627776).tmod 2199023255553 = t := ht.symm
  generalize foldN n = f at *
  by_cases hn : t < 0
  · have e1 : f = t + 2199023255553 - 1099511627776 := (b3 hn).symm
    clear ht b3 b4
    have E1 := Lib.hid e1
    clear e1
    go_enter Tryd.func69, Tryd.ntmps69
    go_wp2
    go_ret
    refine ⟨?_, rfl⟩
    rw [E1.out]
    first | rfl | (congr 2; unfold wrap64; omega)
  · have e1 : f = t - 1099511627776 := (b4 (by omega)).symm
    clear ht b3 b4
    have E1 := Lib.hid e1
    clear e1
    go_enter Tryd.func69, Tryd.ntmps69
    go_wp2
    go_ret
    refine ⟨?_, rfl⟩
    rw [E1.out]
    first | rfl | (congr 2; unfold wrap64; omega)
theorem div_above {n : Int} (h : 1099511627776 < n) : ∃ q, (n - 1099511627777).tdiv 2199023255553 = q ∧ 0 ≤ q ∧ 2199023255553 * q ≤ n - 1099511627777 ∧ n - 2199023255553 * (1 + q) = foldN n := by
  refine ⟨_, rfl, ?_⟩
  rw [Int.tdiv_eq_ediv_of_nonneg (by omega)]
  unfold foldN
  omega
theorem div_below {n : Int} (h : n < -1099511627776) : ∃ q, (-1099511627777 - n).tdiv 2199023255553 = q ∧ 0 ≤ q ∧ 2199023255553 * q ≤ -1099511627777 - n ∧ n + 2199023255553 * (1 + q) = foldN n := by
  refine ⟨_, rfl, ?_⟩
  rw [Int.tdiv_eq_ediv_of_nonneg (by omega)]
  unfold foldN
  omega
theorem folded_any (n : Int) (w : World) (h1 : -4611686018427387904 ≤ n) (h2 : n ≤ 4611686018427387904) :
    Calls Tryd.prog 44 #[.int .i64 n] w fun e w' => e = .returned (.int .i64 (foldN n)) ∧ w = w' := by
  go_enter Tryd.func44, Tryd.ntmps44
  go_wp2_with fail
  go_loopw [0] (fun s wr => ∃ x : Int, s = .int .i64 x ∧ (x = n ∨ InM x) ∧ Hid (foldN x = foldN n) ∧ wr = w) (fun s _ => (intOf s - 1099511627776).toNat)
  case atStart => exact ⟨n, rfl, Or.inl rfl, Lib.hid rfl, rfl⟩
  case round =>
    obtain ⟨x, rfl, hx, HX, rfl⟩ := hrel
    have hb : -4611686018427387904 ≤ x ∧ x ≤ 4611686018427387904 := by
      rcases hx with rfl | h
      · exact ⟨h1, h2⟩
      · unfold InM at h; omega
    by_cases hgt : 1099511627776 < x
    · obtain ⟨q, hq, q0, q1, q2⟩ := div_above hgt
      have HQ := Lib.hid q2
      clear q2 hx
      go_wp2_with fail
      go_roundw
      case rel =>
        refine ⟨foldN x, ?_, Or.inr (foldN_in x), Lib.hid (by rw [foldN_same (foldN_in x)]; exact HX.out), trivial⟩
        rw [← HQ.out]
      case measure => simp only [intOf]; omega
    · go_wp2_with fail
      go_loopw [0] (fun s wr2 => ∃ y : Int, s = .int .i64 y ∧ (y = x ∨ InM y) ∧ Hid (foldN y = foldN n) ∧ wr2 = wr) (fun s _ => (-1099511627776 - intOf s).toNat)
      case atStart => exact ⟨x, rfl, Or.inl rfl, HX, rfl⟩
      case round =>
        obtain ⟨y, rfl, hy, HY, rfl⟩ := hrel
        have hb2 : -4611686018427387904 ≤ y ∧ y ≤ 1099511627776 := by
          rcases hy with rfl | h
          · exact ⟨hb.1, by omega⟩
          · unfold InM at h; omega
        by_cases hlt : y < -1099511627776
        · obtain ⟨q, hq, q0, q1, q2⟩ := div_below hlt
          have HQ := Lib.hid q2
          clear q2 hy hx
          go_wp2_with fail
          go_roundw
          case rel =>
            refine ⟨foldN y, ?_, Or.inr (foldN_in y), Lib.hid (by rw [foldN_same (foldN_in y)]; exact HY.out), trivial⟩
            rw [← HQ.out]
          case measure => simp only [intOf]; omega
        · have e := HY.out
          rw [foldN_same (show InM y from ⟨by omega, hb2.2⟩)] at e
          have E := Lib.hid e
          clear e hy hx
          go_wp2_with fail
          go_ret
          exact ⟨by rw [← E.out]; rfl, rfl⟩
end Go.Proofs.YtpgifkhgefbnfaaDoor
end
section
namespace Go.Proofs.YtpgifkhgefbnfaaDoor
open Go.RowKit BH
set_option maxHeartbeats 1000000
set_option maxRecDepth 100000
theorem check_bad (K D A B N : Int) (Lg : Bool) (w : World) (h : K < 1 ∨ 24 < K) :
    Calls Tryd.prog 20 #[insV K D A B N Lg] w fun e w' => e = .returned (.int .i64 3) ∧ Keeps w w' := by
  unfold insV
  go_enter Tryd.func20, Tryd.ntmps20
  go_wp2_with fail
  all_goals first
    | (exfalso; omega)
    | (go_ret; exact ⟨rfl, by repeat (first | exact Keeps.refl _ | apply Keeps.alloc)⟩)
theorem instrFault_bad (K D A B N : Int) (Lg : Bool) (w : World) (h : K < 1 ∨ 24 < K) :
    Calls Tryd.prog 25 #[insV K D A B N Lg] w fun e w' => e = .returned (.int .i64 3) ∧ Keeps w w' := by
  unfold insV
  go_enter Tryd.func25, Tryd.ntmps25
  go_wp2_with (go_at_call 21; refine (in_no _ _ _ _ (by omega)).mono ?_; rintro e w' ⟨rfl, rfl⟩)
  go_ret
  exact ⟨rfl, by repeat (first | exact Keeps.refl _ | apply Keeps.alloc)⟩
theorem insFault_bad {K D A B N : Int} {Lg : Bool} (h : K < 1 ∨ 24 < K) : insFault K D A B N Lg = 3 := by unfold insFault; rw [if_pos h]
theorem check_any (K D A B N : Int) (Lg : Bool) (w : World) (ht : Tab w) :
    Calls Tryd.prog 20 #[insV K D A B N Lg] w fun e w' => e = .returned (.int .i64 (insFault K D A B N Lg)) ∧ Keeps w w' := by
  by_cases h : K < 1 ∨ 24 < K
  · rw [insFault_bad h]; exact check_bad K D A B N Lg w h
  · obtain ⟨k, rfl⟩ : ∃ k : Nat, K = k := ⟨K.toNat, by omega⟩
    by_cases hbare : k ≤ 4
    · rw [insFault_bare k (by omega) hbare]; exact check_bare k (by omega) hbare D A B N Lg w ht
    by_cases hwide : k ≤ 5
    · rw [insFault_wide k (by omega) hwide]; exact check_wide k (by omega) hwide D A B N Lg w ht
    by_cases hpairA : k ≤ 6
    · rw [insFault_pairA k (by omega) hpairA]; exact check_pairA k (by omega) hpairA D A B N Lg w ht
    by_cases hthree : k ≤ 13
    · rw [insFault_three k (by omega) hthree]; exact check_three k (by omega) hthree D A B N Lg w ht
    by_cases hpairB : k ≤ 14
    · rw [insFault_pairB k (by omega) hpairB]; exact check_pairB k (by omega) hpairB D A B N Lg w ht
    by_cases hstore : k ≤ 15
    · rw [insFault_store k (by omega) hstore]; exact check_store k (by omega) hstore D A B N Lg w ht
    by_cases hdest : k ≤ 16
    · rw [insFault_dest k (by omega) hdest]; exact check_dest k (by omega) hdest D A B N Lg w ht
    by_cases hsource : k ≤ 17
    · rw [insFault_source k (by omega) hsource]; exact check_source k (by omega) hsource D A B N Lg w ht
    by_cases hbranch : k ≤ 21
    · rw [insFault_branch k (by omega) hbranch]; exact check_branch k (by omega) hbranch D A B N Lg w ht
    by_cases hjump : k ≤ 22
    · rw [insFault_jump k (by omega) hjump]; exact check_jump k (by omega) hjump D A B N Lg w ht
    by_cases hcall : k ≤ 23
    · rw [insFault_call k (by omega) hcall]; exact check_call k (by omega) hcall D A B N Lg w ht
    by_cases htable : k ≤ 24
    · rw [insFault_table k (by omega) htable]; exact check_table k (by omega) htable D A B N Lg w ht
    omega
theorem instrFault_any (K D A B N : Int) (Lg : Bool) (w : World) :
    Calls Tryd.prog 25 #[insV K D A B N Lg] w fun e w' => e = .returned (.int .i64 (insFault K D A B N Lg)) ∧ Keeps w w' := by
  by_cases h : K < 1 ∨ 24 < K
  · rw [insFault_bad h]; exact instrFault_bad K D A B N Lg w h
  · obtain ⟨k, rfl⟩ : ∃ k : Nat, K = k := ⟨K.toNat, by omega⟩
    by_cases hbare : k ≤ 4
    · rw [insFault_bare k (by omega) hbare]; exact instrFault_bare k (by omega) hbare D A B N Lg w
    by_cases hwide : k ≤ 5
    · rw [insFault_wide k (by omega) hwide]; exact instrFault_wide k (by omega) hwide D A B N Lg w
    by_cases hpairA : k ≤ 6
    · rw [insFault_pairA k (by omega) hpairA]; exact instrFault_pairA k (by omega) hpairA D A B N Lg w
    by_cases hthree : k ≤ 13
    · rw [insFault_three k (by omega) hthree]; exact instrFault_three k (by omega) hthree D A B N Lg w
    by_cases hpairB : k ≤ 14
    · rw [insFault_pairB k (by omega) hpairB]; exact instrFault_pairB k (by omega) hpairB D A B N Lg w
    by_cases hstore : k ≤ 15
    · rw [insFault_store k (by omega) hstore]; exact instrFault_store k (by omega) hstore D A B N Lg w
    by_cases hdest : k ≤ 16
    · rw [insFault_dest k (by omega) hdest]; exact instrFault_dest k (by omega) hdest D A B N Lg w
    by_cases hsource : k ≤ 17
    · rw [insFault_source k (by omega) hsource]; exact instrFault_source k (by omega) hsource D A B N Lg w
    by_cases hbranch : k ≤ 21
    · rw [insFault_branch k (by omega) hbranch]; exact instrFault_branch k (by omega) hbranch D A B N Lg w
    by_cases hjump : k ≤ 22
    · rw [insFault_jump k (by omega) hjump]; exact instrFault_jump k (by omega) hjump D A B N Lg w
    by_cases hcall : k ≤ 23
    · rw [insFault_call k (by omega) hcall]; exact instrFault_call k (by omega) hcall D A B N Lg w
    by_cases htable : k ≤ 24
    · rw [insFault_table k (by omega) htable]; exact instrFault_table k (by omega) htable D A B N Lg w
    omega
end Go.Proofs.YtpgifkhgefbnfaaDoor
end
section
namespace Go.Proofs.YtpgifkhgefbnfaaDoor
open Go.RowKit BH
set_option maxHeartbeats 1000000
set_option maxRecDepth 100000

theorem nmByte_eq (s : ByteArray) (k : Nat) (h : k < s.size) : nmByte s k = (s[k].toNat : Int) := by
  unfold nmByte
  rw [nth_eq _ _ (by simpa using h)]
  rfl
/-- '[]byte(s)': a slice of its own -/
theorem run_bytes_arr {P : Program} (w : World) (src dst e : TypeId) (s : ByteArray) (hs : P.underlying src = some .string) (hd : P.underlying dst = some (.slice e)) (he : P.underlying e = some (.int .u8)) (hsz : s.size ≤ maxLen) :
    ∃ v w', (convert src dst (.string s)).run P w = .ok v w' ∧ Arr w' v s.size 1 (fun i _ => .int .u8 (nmByte s i)) ∧ Keeps w w' := by
  refine ⟨_, _, run_bytes_of_string w src dst e s hs hd he, ?_, ((Keeps.refl w).drew).alloc _⟩
  refine ⟨_, _, rfl, ?_, ?_, (fun h => by cases h), fun _ => ⟨w.heap.size, 0, rfl, fun i j hi hj => ?_⟩⟩
  · exact grownCap_ge _ _ _ _
  · exact grownCap_le_maxLen _ _ _ _ hsz
  · obtain rfl : j = 0 := by omega
    rw [show w.heap.size = w.drew.heap.size from rfl, World.cell?_alloc_mark]
    simp only []
    rw [nmByte_eq s i hi]
    unfold bytesRow
    rw [Array.getElem?_append_left (by simpa using hi)]
    simp [hi]
    rfl

theorem ret_bool {a b : Bool} (h : a = b) : Ending.returned (.bool a) = .returned (.bool b) := by rw [h]
theorem nameCh_any (c : Int) (w : World) : Calls Tryd.prog 79 #[.int .u8 c] w fun e w' => e = .returned (.bool (!chOk c)) ∧ w = w' := by
  have HC := Lib.hid (show chOk c = decide ((97 ≤ c ∧ c ≤ 122) ∨ (48 ≤ c ∧ c ≤ 57) ∨ c = 95 ∨ c = 46) from rfl)
  generalize chOk c = q at HC ⊢
  go_enter Tryd.func79, Tryd.ntmps79
  go_wp2
  all_goals
    go_ret
    refine ⟨?_, rfl⟩
    refine ret_bool ?_
    rw [HC.out, Bool.eq_iff_iff]
    simp
    try omega

theorem nameOk_no (s : ByteArray) (h : ¬ (1 ≤ s.size ∧ s.size ≤ 16)) : nameOk s = false := by
  unfold nameOk; rw [decide_eq_false h]; rfl
theorem nameOk_yes (s : ByteArray) (h : 1 ≤ s.size ∧ s.size ≤ 16) : nameOk s = !(anyN (fun i => !chOk (nmByte s i)) s.size) := by
  unfold nameOk; rw [decide_eq_true h]; rfl
theorem name_any (s : ByteArray) (w : World) : Calls Tryd.prog 72 #[.string s] w fun e w' => e = .returned (.bool (nameOk s)) ∧ Keeps w w' := by
  have eg : ∀ args w, (callFunc 79 args).run Tryd.prog w = .ok (.enter 79 args) w := enters_of Tryd.func79 (by kernel_rfl) rfl
  have EG := Lib.hid eg
  clear eg
  by_cases h0 : s.size = 0
  · have HN := Lib.hid (nameOk_no s (by omega))
    have he : s = ByteArray.empty := by
      obtain ⟨⟨l⟩⟩ := s
      cases l with
      | nil => rfl
      | cons a r => simp [ByteArray.size] at h0
    subst he
    go_enter Tryd.func72, Tryd.ntmps72
    go_wp2
    go_ret
    exact ⟨ret_bool HN.out.symm, Keeps.refl _⟩
  · by_cases h1 : 16 < s.size
    · have HN := Lib.hid (nameOk_no s (by omega))
      go_enter Tryd.func72, Tryd.ntmps72
      go_wp2
      all_goals
        go_ret
        exact ⟨ret_bool HN.out.symm, Keeps.refl _⟩
    · have HN := Lib.hid (nameOk_yes s (by omega))
      have hne : s.toList.isEmpty = false := by
        rw [ByteArray.toList_eq]
        cases hl : s.data.toList with
        | nil => exact absurd (show s.size = 0 by rw [← ByteArray.size_data, ← Array.length_toList, hl]; rfl) h0
        | cons _ _ => rfl
      have hne2 : ¬ s.toList = [] := by intro h; rw [h] at hne; cases hne
      have h2 : decide (16 < (s.size : Int)) = false := by simp; omega
      obtain ⟨bv, W1, hrun, ha, hk⟩ := run_bytes_arr (P := Tryd.prog) w 9 22 5 s Tryd.underlying9 Tryd.underlying22 Tryd.underlying5 (by unfold maxLen; omega)
      have hp : PredIn Tryd.prog 79 #[] s.size (fun i => .int .u8 (nmByte s i)) (fun i => !chOk (nmByte s i)) W1 :=
        fun W i hi hW => (nameCh_any (nmByte s i) W).mono fun e w' ⟨he, hw⟩ => ⟨he, hw ▸ Keeps.refl _⟩
      have HC := Lib.hid (containsFunc_u8 bv s.size (fun i _ => .int .u8 (nmByte s i)) (fun i => !chOk (nmByte s i)) 79 #[] W1 ha EG.out hp)
      clear hp ha
      generalize anyN (fun i => !chOk (nmByte s i)) s.size = q at HN HC
      go_enter Tryd.func72, Tryd.ntmps72
      go_wp2_with fail
      refine HC.out.mono ?_
      rintro e w1 ⟨rfl, hk1⟩
      go_wp2
      go_ret
      exact ⟨ret_bool (by rw [HN.out]), hk.trans hk1⟩

theorem nameMay_any (s : ByteArray) (w : World) : Calls Tryd.prog 64 #[.string s] w fun e w' => e = .returned (.bool (nameOk s)) ∧ w = w' := by
  by_cases h1 : 1 ≤ s.size ∧ s.size ≤ 16
  · have HN := Lib.hid (nameOk_yes s h1)
    obtain ⟨h2, h3⟩ := h1
    go_enter Tryd.func64, Tryd.ntmps64
    go_wp2_with (go_at_call 21; refine (in_yes _ _ _ _ (by omega) (by omega)).mono ?_; rintro e w' ⟨rfl, rfl⟩)
    go_loop [3, 4] (fun i _ => ∃ k : Nat, k ≤ s.size ∧ i = .int .i64 k ∧ Hid (∀ j, j < k → chOk (nmByte s j) = true)) (fun i _ => s.size - (intOf i).toNat)
    case atStart => exact ⟨0, Nat.zero_le _, rfl, fun j hj => absurd hj (Nat.not_lt_zero _)⟩
    case round =>
      obtain ⟨k, hk, rfl, hok⟩ := hrel
      by_cases hlt : k < s.size
      · have hb := nmByte_eq s k hlt
        have HB := Lib.hid hb
        clear hb
        by_cases hc : (97 ≤ (s[k].toNat : Int) ∧ (s[k].toNat : Int) ≤ 122) ∨ (48 ≤ (s[k].toNat : Int) ∧ (s[k].toNat : Int) ≤ 57) ∨ (s[k].toNat : Int) = 95 ∨ (s[k].toNat : Int) = 46
        · have HK := Lib.hid (show chOk (nmByte s k) = true by rw [HB.out]; exact decide_eq_true hc)
          have HC := Lib.hid hc
          clear hc
          go_wp2
          all_goals first
            | (go_round
               case rel => exact ⟨k + 1, by omega, by go_num, fun j hj => (by
                 by_cases e : j = k
                 · subst e; exact HK.out
                 · exact hok.out j (by omega))⟩
               case measure => simp [intOf]; omega)
            | (exfalso; have hcc := HC.out; simp only [Bool.not_eq_true', decide_eq_false_iff_not, beq_eq_false_iff_ne, ne_eq] at *; omega)
        · have HR := Lib.hid (show nameOk s = false by
            rw [HN.out, anyN_yes (k := k) hlt]
            · rfl
            · show (!chOk (nmByte s k)) = true
              rw [HB.out]
              show (!decide _) = true
              rw [decide_eq_false hc]
              rfl)
          have HC := Lib.hid hc
          clear hc
          go_wp2
          all_goals first
            | (go_ret
               exact ⟨ret_bool HR.out.symm, rfl⟩)
            | (exfalso; have hcc := HC.out; simp only [Bool.not_eq_false', decide_eq_true_eq, beq_iff_eq] at *; omega)
      · go_wp2
        go_ret
        refine ⟨ret_bool ?_, rfl⟩
        rw [HN.out, anyN_no (fun j hj => by rw [hok.out j (by omega)]; rfl)]
        rfl
  · have HN := Lib.hid (nameOk_no s h1)
    go_enter Tryd.func64, Tryd.ntmps64
    go_wp2_with (go_at_call 21; refine (in_no _ _ _ _ (by omega)).mono ?_; rintro e w' ⟨rfl, rfl⟩)
    go_ret
    exact ⟨ret_bool HN.out.symm, rfl⟩
end Go.Proofs.YtpgifkhgefbnfaaDoor
end
