/-
  tally.number: a number in decimal digits, by the library's Atoi and Itoa.
-/
import Derived.Test.YtjnhiiidcjajbaaGreatDoorTalCount
import Derived.Test.YtjnhiiidcjajbaaGreatDoorShelf
import Derived.Test.YtjnhiiidcjajbaaGreatDoorOwn
import Derived.Lib.AtoiAllCases
namespace Go.Proofs.YtjnhiiidcjajbaaGreatDoor
open Go.RowKit BH Go.Lib Go.Shelf Go.Sort
set_option maxHeartbeats 10000000
set_option maxRecDepth 100000
/-- what the library's variables hold -/
structure TalW (w : World) : Prop where
  ml : ∃ m, w.cell? ⟨2, 0, none⟩ = some (.int .i64 m)
  es : ∃ tp p, w.var? Tryz.prog "strconv.ErrSyntax" = some #[.iface tp p]
  er : ∃ tp p, w.var? Tryz.prog "strconv.ErrRange" = some #[.iface tp p]
  tb : TabIs Tryz.prog w "internal/strconv.uint64pow10" .u64 pow10Tab
theorem var_keep {P : Program} {w w' : World} {n : String} {c : Array Value} (h : w.var? P n = some c) (hk : Keeps w w') : w'.var? P n = some c := by
  unfold World.var? at h ⊢
  cases hg : P.globalNamed n with
  | none => rw [hg] at h; cases h
  | some g =>
    rw [hg] at h
    simp only [Option.bind_some] at h ⊢
    cases ho : w.heap[g]? with
    | none => rw [ho] at h; cases h
    | some o => rw [Keeps.block hk ho]; rw [ho] at h; exact h
theorem TalW.keep {w w' : World} (h : TalW w) (hk : Keeps w w') : TalW w' := by
  obtain ⟨m, hm⟩ := h.ml
  obtain ⟨t1, p1, h1⟩ := h.es
  obtain ⟨t2, p2, h2⟩ := h.er
  exact ⟨⟨m, hk.cell hm⟩, ⟨t1, p1, var_keep h1 hk⟩, ⟨t2, p2, var_keep h2 hk⟩, var_keep h.tb hk⟩
theorem keeps_bytesWorld (w : World) (e : TypeId) (s : ByteArray) : Keeps w (bytesWorld w e s) :=
  ⟨rfl, rfl, rfl, by rw [bytesWorld_size]; exact Nat.le_succ _, fun j hj => bytesWorld_at_old w e s j hj⟩
theorem keeps_grow (w : World) (n : Nat) (os : Array Obj) : Keeps w (grow (w.drewN n) os) := by
  refine ⟨rfl, rfl, rfl, ?_, ?_⟩
  · rw [size_grow]; exact Nat.le_add_right _ _
  · intro b hb; exact heap_grow_old (w.drewN n) os hb
/-- what number answers: the number where it is one, and whether -/
def NumE (s : ByteArray) (w : World) (e : Ending) (w' : World) : Prop :=
  ∃ n : Int, e = .returned (.tuple #[.int .i64 n, .bool (decide (0 ≤ countR s.data.toList))]) ∧ (0 ≤ countR s.data.toList → n = countR s.data.toList) ∧ Keeps w w'
theorem number_any (s : ByteArray) (hs : s.size ≤ 4000) (w : World) (hw : TalW w) : Calls Tryz.prog 29 #[.string s] w (NumE s w) := by
  have hcs := count_same s.data.toList
  obtain ⟨te, pe, hes⟩ := hw.es
  obtain ⟨tr, pr, her⟩ := hw.er
  have HW := Lib.hid hw
  rcases ha : atoiAll s.data.toList with v | _ | _
  case ok =>
    have hA : Calls Tryz.prog 77 #[.string s] w fun e w' => e = .returned (.tuple #[.int .i64 v, .nilIface]) ∧ Keeps w w' :=
      (Any.strconv_Atoi_ok Tryz.laysAtoi s (by omega) v ha w).mono fun e w' ⟨h1, h2⟩ => ⟨h1, by
        rcases h2 with rfl | ⟨t, rfl⟩
        · exact Keeps.refl _
        · exact keeps_bytesWorld _ _ _⟩
    obtain ⟨vb0, vb1⟩ := atoiAll_bounds ha
    have hI : ∀ w', Keeps w w' → Calls Tryz.prog 78 #[.int .i64 v] w' fun e w'' => e = .returned (.string ⟨(itoa v).toArray⟩) ∧ Keeps w' w'' := fun w' hk =>
      (Any.strconv_Itoa Tryz.laysItoa v vb0 (by omega) w' (hw.keep hk).tb).mono fun e w'' ⟨h1, k, os, h2⟩ => ⟨h1, by subst h2; exact keeps_grow _ _ _⟩
    have hR : countR s.data.toList = if itoa v = s.data.toList ∧ 0 ≤ v ∧ v ≤ 1073741824 then v else -1 := by rw [← hcs]; unfold countC; rw [ha]
    obtain ⟨S, hS⟩ : ∃ S : ByteArray, S = ⟨(itoa v).toArray⟩ := ⟨_, rfl⟩
    rw [← hS] at hI
    have hSe : (itoa v = s.data.toList) = (S = s) := by
      rw [hS]
      apply propext
      constructor
      · intro e
        rw [e]
      · intro e
        rw [← e]
    simp only [hSe] at hR
    have HA := Lib.hid hA
    have HI := Lib.hid hI
    have HR := Lib.hid hR
    clear hA hI hR hcs ha hes her hw hS hSe
    by_cases hq : S = s
    · subst hq
      by_cases h0 : 0 ≤ v
      · by_cases h1 : v ≤ 1073741824
        · have t0 : decide (0 ≤ v) = true := by simpa using h0
          have t1 : decide (v ≤ 1073741824) = true := by simpa using h1
          have hr : countR S.data.toList = v := by rw [HR.out, if_pos ⟨rfl, h0, h1⟩]
          have HR2 := Lib.hid hr
          clear hr
          go_enter Tryz.func29, Tryz.ntmps29
          go_wp2_with (first | (go_at_call 77; refine HA.out.mono ?_; rintro e w1 ⟨rfl, hk1⟩) | (go_at_call 78; refine (HI.out _ hk1).mono ?_; rintro e w2 ⟨rfl, hk2⟩))
          refine bodyPost_ret (results_tmp2 rfl _ _ _) rfl ?_
          exact ⟨_, by rw [HR2.out, t0]; rfl, fun _ => HR2.out.symm, hk1.trans hk2⟩
        · have t0 : decide (0 ≤ v) = true := by simpa using h0
          have t1 : decide (v ≤ 1073741824) = false := by simpa using h1
          have hr : countR S.data.toList = -1 := by rw [HR.out, if_neg (fun q => h1 q.2.2)]
          have HR2 := Lib.hid hr
          clear hr
          go_enter Tryz.func29, Tryz.ntmps29
          go_wp2_with (first | (go_at_call 77; refine HA.out.mono ?_; rintro e w1 ⟨rfl, hk1⟩) | (go_at_call 78; refine (HI.out _ hk1).mono ?_; rintro e w2 ⟨rfl, hk2⟩))
          refine bodyPost_ret (results_tmp2 rfl _ _ _) rfl ?_
          exact ⟨_, by rw [HR2.out]; rfl, fun q => by rw [HR2.out] at q; omega, hk1.trans hk2⟩
      · have t0 : decide (0 ≤ v) = false := by simpa using h0
        have hr : countR S.data.toList = -1 := by rw [HR.out, if_neg (fun q => h0 q.2.1)]
        have HR2 := Lib.hid hr
        clear hr
        go_enter Tryz.func29, Tryz.ntmps29
        go_wp2_with (first | (go_at_call 77; refine HA.out.mono ?_; rintro e w1 ⟨rfl, hk1⟩) | (go_at_call 78; refine (HI.out _ hk1).mono ?_; rintro e w2 ⟨rfl, hk2⟩))
        refine bodyPost_ret (results_tmp2 rfl _ _ _) rfl ?_
        exact ⟨_, by rw [HR2.out]; rfl, fun q => by rw [HR2.out] at q; omega, hk1.trans hk2⟩
    · have hr : countR s.data.toList = -1 := by rw [HR.out, if_neg (fun q => hq q.1)]
      have HR2 := Lib.hid hr
      have tS : (S.toList == s.toList) = false := by
        have q : S.toList ≠ s.toList := fun e => hq (by
          rw [ByteArray.toList_eq, ByteArray.toList_eq] at e
          obtain ⟨⟨l⟩⟩ := S
          obtain ⟨⟨m⟩⟩ := s
          simp at e
          rw [e])
        simpa using q
      clear hr
      go_enter Tryz.func29, Tryz.ntmps29
      go_wp2_with (first | (go_at_call 77; refine HA.out.mono ?_; rintro e w1 ⟨rfl, hk1⟩) | (go_at_call 78; refine (HI.out _ hk1).mono ?_; rintro e w2 ⟨rfl, hk2⟩))
      refine bodyPost_ret (results_tmp2 rfl _ _ _) rfl ?_
      exact ⟨_, by rw [HR2.out]; rfl, fun q => by rw [HR2.out] at q; omega, hk1.trans hk2⟩
  case range =>
    have hR : countR s.data.toList = -1 := by rw [← hcs]; unfold countC; rw [ha]
    have hA : Calls Tryz.prog 77 #[.string s] w fun e w' => ∃ t N, e = .returned (.tuple #[.int .i64 (atoiSat s.data.toList), .iface t (.pointer (some ⟨N, 0, none⟩))]) ∧ Keeps w w' :=
      (Any.strconv_Atoi_range_var Tryz.laysAtoi s (by omega) ha tr pr w her).mono fun e w' ⟨N, h1, _, _, h4⟩ => ⟨_, N, h1, h4⟩
    obtain ⟨sb0, sb1⟩ := atoiSat_bounds s.data.toList
    generalize atoiSat s.data.toList = sat at hA sb0 sb1
    have HA := Lib.hid hA
    have HR := Lib.hid hR
    clear hA hR hcs ha hes her hw
    go_enter Tryz.func29, Tryz.ntmps29
    go_wp2_with (go_at_call 77; refine HA.out.mono ?_; rintro e w1 ⟨t, N, rfl, hk1⟩)
    refine bodyPost_ret (results_tmp2 rfl _ _ _) rfl ?_
    exact ⟨_, by rw [HR.out]; rfl, fun q => by rw [HR.out] at q; omega, hk1⟩
  all_goals
    have hR : countR s.data.toList = -1 := by rw [← hcs]; unfold countC; rw [ha]
    have hA : Calls Tryz.prog 77 #[.string s] w fun e w' => ∃ t N, e = .returned (.tuple #[.int .i64 0, .iface t (.pointer (some ⟨N, 0, none⟩))]) ∧ Keeps w w' :=
      (Any.strconv_Atoi_syntax_var Tryz.laysAtoi s (by omega) ha te pe w hes).mono fun e w' ⟨N, h1, _, _, h4⟩ => ⟨_, N, h1, h4⟩
    have HA := Lib.hid hA
    have HR := Lib.hid hR
    clear hA hR hcs ha hes her hw
    go_enter Tryz.func29, Tryz.ntmps29
    go_wp2_with (go_at_call 77; refine HA.out.mono ?_; rintro e w1 ⟨t, N, rfl, hk1⟩)
    refine bodyPost_ret (results_tmp2 rfl _ _ _) rfl ?_
    exact ⟨_, by rw [HR.out]; rfl, fun q => by rw [HR.out] at q; omega, hk1⟩
end Go.Proofs.YtjnhiiidcjajbaaGreatDoor
