/-
  slices.SortStableFunc at [][]int: the stable sort whole, and on a slice of the call's own.
-/
import Derived.Test.YtofaghcnkppmbaaStabCh
namespace Go.Proofs.Ytofaghcnkppmbaa
open Go.RowKit BH Go.Sort
set_option maxHeartbeats 1000000000
set_option maxRecDepth 1000000
section
variable {γ : Type} [Inhabited γ] {pr : γ → Sv} {w0 w : World} {g cap N : Nat} {rest : Array Value} {d : Array γ}
theorem stable_ch {fn : FuncId} {cb : Array Value} {cf : γ → γ → Int} {Q : γ → Prop} {lt0 : γ → γ → Bool} {rk : γ → Nat} (eg : ∀ args w, (callFunc fn args).run Try.prog w = .ok (.enter fn args) w) (hC : CmpG Try.prog fn cb (fun z => argCh (pr z)) cf Q g w0) (so : SWO lt0) (ag : Agr (ltc cf) lt0 rk Q) (hsz : N < 1152921504606846976) (h : SRow w0 g 24 1 (fun z => cCh (pr z)) rest d w) (hN : d.size = N) (hr : ∀ i, i < N → rk d[i]! = i ∧ Q d[i]!) :
    Calls Try.prog 48 #[.slice (some ⟨g, 0, none⟩) N cap, .int .i64 (N : Int), .func (.func fn) #[] cb] w fun e w' => e = .returned (.tuple #[]) ∧ ∃ d', SRow w0 g 24 1 (fun z => cCh (pr z)) rest d' w' ∧ PermIn 0 N d d' ∧ SortedIn (lexLt lt0 rk) 0 N d' := by
  have HNN := Lib.hid hN
  have HQA : Hid (∀ i, i < N → Q d[i]!) := Lib.hid fun i hi => (hr i hi).2
  have HI0 : Hid (Ins1 lt0 rk Q 0 N d d) := Lib.hid (Ins1.start hr)
  have H := Lib.hid h
  have HC := Lib.hid hC
  have SO := Lib.hid so
  have SX := Lib.hid (lexLt_swo so rk)
  have AG := Lib.hid ag
  have mixed : Try.prog.follows .mixedOrders = true := by kernel_rfl
  have HIC := Lib.hid (fun (a b : Nat) (dd : Array γ) (ww : World) => insertion_ch (cap := cap) (N := N) (rest := rest) (w := ww) (d := dd) eg hC a b)
  have HSC := Lib.hid (fun (a m b : Nat) (dd : Array γ) (ww : World) => symMerge_ch (cap := cap) (N := N) (rest := rest) eg hC (lexLt_swo so rk) (by omega) (b - a) a m b dd ww (Nat.le_refl _))
  clear h hN hr hC so ag
  go_enter Try.func48, Try.ntmps48
  go_wp2_with fail
  go_loopw [7, 8] (fun s7 s8 wr => ∃ (k x y : Nat) (dk : Array γ), s7 = .int .i64 x ∧ s8 = .int .i64 y ∧ x = k * 20 ∧ y = x + 20 ∧ x ≤ N ∧ Hid (Ins1 lt0 rk Q k N d dk) ∧ Hid (SRow w0 g 24 1 (fun z => cCh (pr z)) rest dk wr)) (fun s7 _ _ => N - (intOf s7).toNat)
  case atStart => exact ⟨0, 0, 20, d, rfl, rfl, rfl, rfl, Nat.zero_le _, HI0, H⟩
  case round =>
    obtain ⟨k, x, y, dk, rfl, rfl, hx, hy, hxN, HI, HR⟩ := hrel
    have hdN : dk.size = N := by rw [HI.out.perm.1]; exact HNN.out
    have HDN : Hid (dk.size = N ∧ ∀ i, i < N → Q dk[i]!) := Lib.hid ⟨hdN, allQ_perm HNN.out (Nat.le_refl _) HI.out.perm HQA.out⟩
    clear hdN
    have HX := Lib.hid hx
    have HY := Lib.hid hy
    have hy1 : y ≤ x + 20 := by omega
    have hy2 : x + 20 ≤ y := by omega
    clear hx hy
    by_cases hlt : y ≤ N
    · have hltz : (y : Int) ≤ (N : Int) := by omega
      have hic := HIC.out x y dk wr HR.out HDN.out.1 HDN.out.2 (by omega) hlt (by omega)
      go_wp2_with (go_at_call 62; refine hic.mono ?_; rintro e1 w2 ⟨rfl, hr2⟩; have HR2 := Lib.hid hr2; clear hr2; dsimp only)
      go_roundw
      case rel =>
        refine ⟨k + 1, y, y + 20, _, rfl, by go_num, by have := HX.out; omega, rfl, hlt, Lib.hid ?_, HR2⟩
        have e := HI.out.next AG.out SO.out HNN.out (by have := HX.out; omega)
        rw [← HX.out, ← HY.out] at e
        exact e
      case measure => simp [intOf]; omega
    · have hltz : ¬ (y : Int) ≤ (N : Int) := by omega
      have hic := HIC.out x N dk wr HR.out HDN.out.1 HDN.out.2 hxN (Nat.le_refl _) (by omega)
      obtain ⟨wo, hwo⟩ : ∃ wo : World, wo = wr := ⟨_, rfl⟩
      subst hwo
      go_wp2_with (go_at_call 62; refine hic.mono ?_; rintro e1 w2 ⟨rfl, hr2⟩; have HR2 := Lib.hid hr2; clear hr2; dsimp only)
      have hl := HI.out.last AG.out SO.out HNN.out (by have := HX.out; omega) (by have := HX.out; omega)
      rw [← HX.out] at hl
      have HL := Lib.hid hl
      clear hl hic
      go_loopw [6] (fun s6 wr => ∃ (B : Nat) (dj : Array γ), s6 = .int .i64 B ∧ 0 < B ∧ B ≤ 2 * N + 20 ∧ Hid (PermIn 0 N d dj ∧ SegsFrom lt0 rk Q B 0 N dj) ∧ Hid (SRow w0 g 24 1 (fun z => cCh (pr z)) rest dj wr)) (fun s6 _ => N - (intOf s6).toNat)
      case atStart => exact ⟨20, _, rfl, by omega, by omega, HL, HR2⟩
      case round =>
        obtain ⟨B, dj, rfl, hB, hB2, HS, HRJ⟩ := hrel
        obtain ⟨wo2, hwo2⟩ : ∃ wo2 : World, wo2 = wr := ⟨_, rfl⟩
        subst hwo2
        by_cases hBN : B < N
        · have hBz : (B : Int) < (N : Int) := by omega
          go_wp2_with fail
          go_loopw [7, 8] (fun s7 s8 wr => ∃ (q x y : Nat) (dq : Array γ), s7 = .int .i64 x ∧ s8 = .int .i64 y ∧ Hid (x = q * (2 * B)) ∧ y = x + 2 * B ∧ x ≤ N ∧ Hid (Pass lt0 rk Q B q N d dq) ∧ Hid (SRow w0 g 24 1 (fun z => cCh (pr z)) rest dq wr)) (fun _ s8 _ => N + 2 * B + 1 - (intOf s8).toNat)
          case atStart => exact ⟨0, 0, 2 * B, dj, rfl, by go_num, Lib.hid (by omega), by omega, Nat.zero_le _, Lib.hid (Pass.start HS.out.1 HS.out.2), HRJ⟩
          case round =>
            obtain ⟨q, x, y, dq, rfl, rfl, HXQ, hy, hxN, HP, HRQ⟩ := hrel
            have HDQ : Hid (dq.size = N ∧ ∀ i, i < N → Q dq[i]!) := Lib.hid ⟨by rw [HP.out.perm.1]; exact HNN.out, allQ_perm HNN.out (Nat.le_refl _) HP.out.perm HQA.out⟩
            obtain ⟨mm, hmm⟩ : ∃ mm : Nat, mm = x + B := ⟨_, rfl⟩
            have em : (x : Int) + (B : Int) = (mm : Int) := by omega
            have HMM := Lib.hid hmm
            have HYQ := Lib.hid hy
            have hy1 : y ≤ x + 2 * B := by omega
            have hy2 : x + 2 * B ≤ y := by omega
            have hm1 : mm ≤ x + B := by omega
            have hm0 : x + B ≤ mm := by omega
            clear hmm hy
            by_cases hlt2 : y ≤ N
            · have hltz2 : (y : Int) ≤ (N : Int) := by omega
              have hmin : min (x + 2 * B) N = y := by omega
              have hru := HP.out.runs AG.out HNN.out hB (by rw [← HXQ.out]; omega)
              rw [← HXQ.out, hmin, ← HMM.out] at hru
              have hsc := HSC.out x mm y dq wr HRQ.out HDQ.out.1 HDQ.out.2 hru
              have HMIN := Lib.hid hmin
              clear hru hmin
              go_wp2_with (go_at_call 63; refine hsc.mono ?_; rintro e1 w4 ⟨rfl, d2, hr2, hm2⟩; have HR2 := Lib.hid hr2; have HM2 := Lib.hid hm2; clear hr2 hm2; dsimp only)
              go_roundw
              case rel =>
                refine ⟨q + 1, y, y + 2 * B, d2, rfl, by go_num, Lib.hid (by rw [HYQ.out, HXQ.out, Nat.add_mul]; omega), rfl, hlt2, Lib.hid ?_, HR2⟩
                refine HP.out.next HNN.out hB (by rw [← HXQ.out]; omega) ?_
                rw [← HXQ.out, HMIN.out]
                exact HM2.out
              case measure => simp [intOf]; omega
            · have hltz2 : ¬ (y : Int) ≤ (N : Int) := by omega
              by_cases hm2 : mm < N
              · have hm2z : (mm : Int) < (N : Int) := by omega
                have hmin : min (x + 2 * B) N = N := by omega
                have hru := HP.out.runs AG.out HNN.out hB (by rw [← HXQ.out]; omega)
                rw [← HXQ.out, hmin, ← HMM.out] at hru
                have hsc := HSC.out x mm N dq wr HRQ.out HDQ.out.1 HDQ.out.2 hru
                have HMIN := Lib.hid hmin
                clear hru hmin
                go_wp2_with (go_at_call 63; refine hsc.mono ?_; rintro e1 w4 ⟨rfl, d2, hr2, hm2⟩; have HR2 := Lib.hid hr2; have HM2 := Lib.hid hm2; clear hr2 hm2; dsimp only)
                go_roundw
                case rel =>
                  have hp := HP.out.next HNN.out hB (by rw [← HXQ.out, ← HMM.out]; exact hm2) (d' := d2) (by rw [← HXQ.out, HMIN.out]; exact HM2.out)
                  exact ⟨2 * B, d2, by go_num, by omega, by omega, Lib.hid ⟨hp.perm, hp.end2 (by rw [Nat.add_mul, ← HXQ.out]; omega)⟩, HR2⟩
                case measure => simp [intOf]; omega
              · have hm2z : ¬ (mm : Int) < (N : Int) := by omega
                go_wp2_with fail
                go_roundw
                case rel => exact ⟨2 * B, dq, by go_num, by omega, by omega, Lib.hid ⟨HP.out.perm, HP.out.end1 (by rw [← HXQ.out, ← HMM.out]; exact hm2)⟩, HRQ⟩
                case measure => simp [intOf]; omega
        · have hBz : ¬ (B : Int) < (N : Int) := by omega
          go_wp2_with fail
          go_end0
          exact ⟨rfl, dj, HRJ.out, HS.out.1, segs_sorted HS.out.2 (by omega)⟩
theorem insertion_none_ch (v fv : Value) : Calls Try.prog 62 #[v, .int .i64 0, .int .i64 0, fv] w fun e w' => e = .returned (.tuple #[]) ∧ w = w' := by
  go_enter Try.func62, Try.ntmps62
  go_wp2_with fail
  refine wp_loop_rounds 1 ?_
  rw [rounds_succ]
  go_wp2_with fail
  go_end0
  exact ⟨rfl, rfl⟩
theorem sort_none_ch (fv : Value) : Calls Try.prog 34 #[.slice none 0 0, fv] w fun e w' => e = .returned (.tuple #[]) ∧ w = w' := by
  have hs : Calls Try.prog 48 #[.slice none 0 0, .int .i64 0, fv] w fun e w' => e = .returned (.tuple #[]) ∧ w = w' := by
    go_enter Try.func48, Try.ntmps48
    go_wp2_with fail
    refine wp_loop_rounds 1 ?_
    rw [rounds_succ]
    go_wp2_with (go_at_call 62; refine (insertion_none_ch _ _).mono ?_; rintro e1 w2 ⟨rfl, rfl⟩)
    refine wp_loop_rounds 1 ?_
    rw [rounds_succ]
    go_wp2_with fail
    go_end0
    exact ⟨rfl, rfl⟩
  go_enter Try.func34, Try.ntmps34
  go_wp2_with (go_at_call 48; refine hs.mono ?_; rintro e1 w2 ⟨rfl, rfl⟩)
  go_end0
  exact ⟨rfl, rfl⟩
end
theorem cCh_len (x : Sv) : (cCh x).length = 1 := rfl
theorem zip_flat_ch (l : List Sv) : ∀ n, (l.zipIdx n).flatMap (fun z => cCh z.1) = l.flatMap cCh := by
  induction l with
  | nil => intro n; rfl
  | cons x r ih => intro n; rw [List.zipIdx_cons, List.flatMap_cons, List.flatMap_cons, ih]
theorem fst_flat_ch (l : List (Sv × Nat)) : (l.map Prod.fst).flatMap cCh = l.flatMap (fun z => cCh z.1) := by
  induction l with
  | nil => rfl
  | cons x r ih => rw [List.map_cons, List.flatMap_cons, List.flatMap_cons, ih]
/-- slices.SortStableFunc on a slice of the call's own: core's mergeSort, whatever cmp says where the clean order says so too. -/
theorem sortStable_ch {w : World} {base : Nat} {v : Value} {l : List Sv} {fn : FuncId} {cb : Array Value} {cf : Sv → Sv → Int} {Q : Sv → Nat → Prop} {lt0 : Sv → Sv → Bool}
    (eg : ∀ args w, (callFunc fn args).run Try.prog w = .ok (.enter fn args) w) (hC : ∀ g, v.ownBlock = some g → CmpG Try.prog fn cb (fun z : Sv × Nat => argCh z.1) (fun x y : Sv × Nat => cf x.1 y.1) (fun z : Sv × Nat => Q z.1 z.2) g w) (so : SWO lt0)
    (ag : ∀ x y i j, Q x i → Q y j → i ≠ j → decide (cf x y < 0) = lt0 x y) (hsz : l.length < 1152921504606846976) (h : Own w base 24 1 cCh v l) (hQ : ∀ i, i < l.length → Q (nth l i) i) (_hb : base ≤ w.heap.size) :
    Calls Try.prog 34 #[v, .func (.func fn) #[] cb] w fun e w' => e = .returned (.tuple #[]) ∧ Own w' base 24 1 cCh v (l.mergeSort (leOf lt0)) ∧ w.grownBy w' v.ownBlock := by
  by_cases hv : v = .slice none 0 0
  · subst hv
    have h0 : l = [] := by
      rcases h.2 with ⟨_, h0⟩ | ⟨g, cap, cur, hv, _⟩
      · exact List.eq_nil_of_length_eq_zero h0
      · cases hv
    subst h0
    refine (sort_none_ch _).mono ?_
    rintro e w' ⟨rfl, rfl⟩
    exact ⟨rfl, by rw [List.mergeSort_nil]; exact h, (Keeps.refl _).grown _⟩
  · have h2 : Own w base 24 1 (fun z : Sv × Nat => cCh z.1) v l.zipIdx := by
      unfold Own at h ⊢
      rw [zip_flat_ch, List.length_zipIdx]
      exact h
    obtain ⟨g, cap, rest, rfl, hbg, hn, hc, hrow, back⟩ := h2.srow (fun _ => rfl) hv
    have hsize : (ranked l).size = l.length := ranked_size l
    have hlen : l.zipIdx.length = l.length := List.length_zipIdx ..
    rw [hlen] at back ⊢
    have hst := stable_ch (cap := cap) (N := l.length) (pr := Prod.fst) (lt0 := fun x y : Sv × Nat => lt0 x.1 y.1) (rk := Prod.snd) eg (hC g rfl) ⟨fun x => so.irrefl _, fun x y z => so.trans _ _ _, fun x y z => so.ntrans _ _ _⟩ (fun x y hx hy hne => ag _ _ _ _ hx hy hne) hsz hrow hsize (fun i hi => by
      have e := ranked_at l i hi
      unfold ranked at e
      rw [e]
      refine ⟨rfl, ?_⟩
      have := hQ i hi
      rw [nth_eq l i hi] at this
      exact this)
    go_enter Try.func34, Try.ntmps34
    go_wp2_with (go_at_call 48; refine hst.mono ?_; rintro e1 w2 ⟨rfl, d', hr, hp, hs⟩; dsimp only)
    go_end0
    have hb2 := back d' w2 (by rw [hp.1]; exact hsize) hr
    have e := stable_end so l d' hp hs
    refine ⟨rfl, ?_, hb2.2⟩
    have ho := hb2.1
    unfold Own at ho ⊢
    rw [← e, fst_flat_ch, List.length_map]
    exact ho
section
end
end Go.Proofs.Ytofaghcnkppmbaa
