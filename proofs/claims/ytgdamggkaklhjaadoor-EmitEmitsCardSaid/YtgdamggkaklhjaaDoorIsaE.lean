/-
isa.Encode: one contract, for every instruction.
-/
import Derived.Test.YtgdamggkaklhjaaDoorImgFuncs
import Derived.Deep.DeepCutAuto
set_option linter.all false
namespace Go.Proofs.YtgdamggkaklhjaaDoor
open Go.RowKit BH
set_option maxHeartbeats 1000000000
set_option maxRecDepth 100000
section
variable {ops : Array Oper} {Q : Exit → Act → World → Prop} {rest : List Oper} {a : Act} {o : Oper} {w : World}
theorem wpl_bytes {base g c : Nat} {v : Value} {l : List Int} (sx xx : Nat) (ys : List Int) (hown : Own w base 5 1 cu v l) (hg : Blk w g (.cells (ys.flatMap cu).toArray 5))
  (hgd : o.guard = none := by rfl) (ho : o.op = .call { callee := .builtin .append, args := #[.tmp sx, .tmp xx], argTypes := #[22, 22] } := by rfl) (hs : a.eval (.tmp sx) = v := by rfl) (hx : a.eval (.tmp xx) = .slice (some ⟨g, 0, none⟩) ys.length c := by rfl)
  (hn : (l.length + ys.length) * 1 ≤ 140737488355328 ∧ l.length + ys.length ≤ maxLen := by constructor <;> simp [maxLen]) (hb : base ≤ w.heap.size := by first | omega | (simp only [sz_alloc]; omega) | (simp only [sz_drew]; omega) | (simp only [sz_alloc, sz_drew]; omega) | (simp only [sz_alloc, sz_drewN]; omega))
  (h : ∀ v' w', Own w' base 5 1 cu v' (l ++ ys) → Below base w w' → w.grownBy w' v.ownBlock → base ≤ w'.heap.size → wpList Tryd.prog ops Q rest (a.put o.dst v') w') : wpList Tryd.prog ops Q (o :: rest) a w :=
 wpList_pushes hgd _ _ _ ho Tryd.underlying22 info_u8 jr jd hs hown ys _ _ hx hg cu_len cu_one hn.1 hn.2 hb fun v' w' h1 h2 h3 _ => h v' w' h1 h2 h3 (Nat.le_trans hb h2.size)
theorem step_bytes {K : Act → World → Prop} {E : Prop} {base g c : Nat} {v : Value} {l : List Int} (sx xx : Nat) (ys : List Int) (hown : Own w base 5 1 cu v l) (hg : Blk w g (.cells (ys.flatMap cu).toArray 5))
  (hgd : o.guard = none := by rfl) (ho : o.op = .call { callee := .builtin .append, args := #[.tmp sx, .tmp xx], argTypes := #[22, 22] } := by rfl) (hs : a.eval (.tmp sx) = v := by rfl) (hx : a.eval (.tmp xx) = .slice (some ⟨g, 0, none⟩) ys.length c := by rfl)
  (hn : (l.length + ys.length) * 1 ≤ 140737488355328 ∧ l.length + ys.length ≤ maxLen := by constructor <;> simp [maxLen]) (hb : base ≤ w.heap.size := by first | omega | (simp only [sz_alloc]; omega) | (simp only [sz_drew]; omega) | (simp only [sz_alloc, sz_drew]; omega) | (simp only [sz_alloc, sz_drewN]; omega))
  (h : ∀ v' w', Own w' base 5 1 cu v' (l ++ ys) → Below base w w' → w.grownBy w' v.ownBlock → base ≤ w'.heap.size → K (a.put o.dst v') w') : if Region.wanted o (yielded ops a.tmps) = true then Oper.wp Tryd.prog o a w K Q else E :=
 step_pushes hgd _ _ _ ho Tryd.underlying22 info_u8 jr jd hs hown ys _ _ hx hg cu_len cu_one hn.1 hn.2 hb fun v' w' h1 h2 h3 _ => h v' w' h1 h2 h3 (Nat.le_trans hb h2.size)
end
def encAns (K D A B N : Int) (Lg : Bool) : List Int := if insFault K D A B N Lg = 0 then insBytes K.toNat D A B N Lg else []
theorem encode_ok (k : Nat) (D A B N : Int) (Lg : Bool) (w : World) (ht : Tab w) (hF : insFault k D A B N Lg = 0) :
  Calls Tryd.prog 34 #[insV k D A B N Lg] w (GivesE (fun v w' => Octs w' v (insBytes k D A B N Lg)) 0 w) := by
 obtain ⟨k1, k2, ⟨r1, r2, r3, r4, r5, r6⟩, n1, n2, -⟩ := insFault_zero hF
 have HC := jH (check_any k D A B N Lg _ (ht.keep ((Keeps.refl w).alloc (.cells #[.int .i64 k, .int .i64 D, .int .i64 A, .int .i64 B, .int .i64 N, .bool Lg] 64))))
 rw [hF] at HC
 obtain ⟨lo, hi, s, d, a, b, n, lz, r, hm, h1, h2, hs, hl⟩ := kinds k k1 k2
 obtain ⟨c0, c1, c2⟩ := ht k jo
 rw [hs] at c2
 have Hp := rows hm
 obtain ⟨OP, Hg⟩ := jE (bif Lg then longT k else opT k)
 have H3 := jH Hg
 have hG : 1 < w.heap.size := lt_of_cell c0
 have HD : Hid (D % 256 = D ∧ A % 256 = A ∧ B % 256 = B) := jH jo
 have Hq : (([OP] ++ [A * 16 + B]).length + (lastB N Lg).length) * 1 ≤ 140737488355328 ∧ ([OP] ++ [A * 16 + B]).length + (lastB N Lg).length ≤ maxLen := by cases Lg <;> simp [lastB, maxLen]
 have Hr : ([OP].length + (lastB N Lg).length) * 1 ≤ 140737488355328 ∧ [OP].length + (lastB N Lg).length ≤ maxLen := by cases Lg <;> simp [lastB, maxLen]
 clear hs hl hm ht hF
 unfold insV at HC ⊢
 go_enter Tryd.func34, Tryd.ntmps34
 go_wp2_with fail
 refine HC.out.mono ?_
 rintro e w1 ⟨rfl, Hi⟩
 obtain ⟨b, hb⟩ := jE (w.heap.size)
 have Hb : Blk w1 b (.cells #[.int .i64 k, .int .i64 D, .int .i64 A, .int .i64 B, .int .i64 N, .bool Lg] 64) := by rw [hb]; exact (Blk.top _ _).keep Hi
 rw [← hb]
 have Hc : Keeps w w1 := ((Keeps.refl w).alloc _).trans Hi
 have d0 := Hc.cell c0
 have d1 := Hc.cell c1
 have d2 := Hc.cell c2
 have m0 := jc w1 b 0 k (Hb.cell rfl)
 have m4 := jc w1 b 4 N (Hb.cell rfl)
 have ml := Hb.lt
 clear c0 c1 c2 HC Hi hb
 go_upto_region 7 with fail
 obtain ⟨W2, Hj, Hk, H8, Hs⟩ := two_blocks w1 (.cells #[.int .u8 (opT k), .int .u8 (longT k), .int .i64 s] 123) (.cells #[.int .u8 (N % 256)] 5)
 have Hl : Blk W2 (w1.heap.size + 1) (.cells #[.int .u8 (N % 256)] 5) := by rw [Hj]; exact Blk.top' _ _ (by rw [sz_alloc])
 rw [← Hj]
 clear Hj d0 d1 d2 m0 m4
 have Hd := Hb.keep Hk
 have m5 := jv W2 b 5 (.bool Lg) (Hd.cell rfl)
 have ml := Hd.lt
 have Ht := jH (Hc.trans Hk)
 have Hm := H8.lt
 generalize w1.heap.size + 1 = gl at Hl Hs ⊢
 generalize w1.heap.size = gr at H8 Hm ⊢
 go_upto_if 25 with fail
 go_cut [6, 7] (fun s6 s7 wx => ∃ g : Nat, s6 = .int .u8 OP ∧ s7 = .slice (some ⟨g, 0, none⟩) (lastB N Lg).length (lastB N Lg).length ∧ Hid (Keeps W2 wx) ∧ Hid (Blk wx g (.cells ((lastB N Lg).flatMap cu).toArray 5)))
 case first =>
  cases Lg with
  | false =>
   obtain rfl : OP = opT k := Hg
   go_wp2_with fail
   go_meet
   case rel => exact ⟨gl, rfl, rfl, jH (Keeps.refl _), jH Hl⟩
  | true =>
   obtain rfl : OP = longT k := Hg
   have e1 := jv W2 gr 1 (.int .u8 (longT k)) (H8.cell rfl)
   have e4 := jc W2 b 4 N (Hd.cell rfl)
   clear H3 m5 Hr Hq Hp
   go_upto_region 8 with fail
   go_region_held3 (fun w' => w'.cell? ⟨b, 4, none⟩ = some (.int .i64 N) ∧ w'.cell? ⟨gr, 1, none⟩ = some (.int .u8 (longT k)))
    (exact ⟨Keeps.cell jk e4, Keeps.cell jk e1⟩)
    ((go_at_call 62; refine (two_any _ _).mono ?_; rintro e w' ⟨rfl, rfl⟩))
   go_wp2_with fail
   go_meet
   case rel => exact ⟨W2.heap.size, rfl, rfl, jH jk, jH (Blk.drew (Blk.top _ _))⟩
 case rest =>
 obtain ⟨gl, rfl, rfl, H9, Hn⟩ := hcut
 clear Hg
 have e2 := jc wc gr 2 s (H9.out.cell (H8.cell rfl))
 have Hu : gr < wc.heap.size := Nat.lt_of_lt_of_le Hm H9.out.size
 go_upto_region 10 with fail
 obtain ⟨W3, Hh⟩ := jE (wc.alloc (.cells #[.int .u8 OP] 5))
 obtain ⟨g, hg⟩ := jE (wc.heap.size)
 have H6 : Keeps wc W3 := by rw [Hh]; exact (Keeps.refl _).alloc _
 have Ho : Blk W3 g (.cells #[.int .u8 OP] 5) := by rw [Hh]; exact Blk.top' _ _ hg
 have HO : Own W3 g 5 1 cu (.slice (some ⟨g, 0, none⟩) 1 1) [OP] := Own.of_block (l := [OP]) cu_len (Nat.le_refl _) Ho (by simp [maxLen])
 have HL : Blk W3 gl (.cells ((lastB N Lg).flatMap cu).toArray 5) := Hn.out.keep H6
 have Hv : gl < g := by rw [hg]; exact Hn.out.lt
 have hgs := Ho.lt
 rw [← Hh, ← hg]
 clear e2 Hh
 have e2 := jc W3 gr 2 s ((H9.out.trans H6).cell (H8.cell rfl))
 have Ha := Hd.keep H9.out
 have c1 := jc wc b 1 D (Ha.cell rfl)
 have c2 := jc wc b 2 A (Ha.cell rfl)
 have c3 := jc wc b 3 B (Ha.cell rfl)
 have c4 := jc wc b 4 N (Ha.cell rfl)
 have p1 := H6.cell c1
 have p2 := H6.cell c2
 have p3 := H6.cell c3
 have p4 := H6.cell c4
 have hin := (Ha.keep H6).lt
 have Hw : gr < W3.heap.size := by have := H6.size; omega
 have HK := jH (Ht.out.trans H9.out)
 have hwg : wc.heap.size ≤ g := by rw [hg]; exact Nat.le_refl _
 clear m5 ml Hb Hd Ha H8 Hm Hl Ho Hc Hk H9 Hn Ht Hs Hu hG hg
 go_upto_if 35 with fail
 rcases Hp with h | h | h | h | h | h | h | h | h | h | h | h
 ·obtain ⟨rfl, rfl, rfl, -⟩ := h
  have HB := jH (show insBytes k D A B N Lg = OP :: ([]) by rw [H3.out]; unfold insBytes; repeat first | rw [if_pos jo] | rw [if_neg jo])
  clear h1 h2
  go_wp2
  go_ret2
  refine ⟨_, rfl, ?_, HK.out.trans jk⟩
  rw [HB.out]
  exact own_octs (by simpa [lowB, highB, HD.out] using HO)
 ·obtain ⟨rfl, rfl, rfl, -⟩ := h
  have HB := jH (show insBytes k D A B N Lg = OP :: ([D, lowB N, highB N]) by rw [H3.out]; unfold insBytes; repeat first | rw [if_pos jo] | rw [if_neg jo])
  clear h1 h2
  go_upto_region 12 with fail
  go_region_held3 (fun w' => w'.cell? ⟨b, 1, none⟩ = some (.int .i64 D) ∧ w'.cell? ⟨b, 4, none⟩ = some (.int .i64 N))
   (exact ⟨Keeps.cell jk c1, Keeps.cell jk c4⟩)
   (first | (go_at_call 62; refine (two_any _ _).mono ?_; rintro e w' ⟨rfl, rfl⟩) | (refine step_bytes 37 41 [D % 256] (HO.keep jk) jt (h := ?_); intro v' w' H0 H1 H4 H5) | (refine step_bytes 42 45 [lowB N, highB N] (H0.keep jk) jt (h := ?_); intro v2' w2' H2 H7 He Hf))
  go_wp2
  go_ret2
  refine ⟨_, rfl, ?_, HK.out.trans jk⟩
  rw [HB.out]
  exact own_octs (by simpa [lowB, highB, HD.out] using H2)
 ·obtain ⟨rfl, rfl, rfl, -⟩ := h
  have HB := jH (show insBytes k D A B N Lg = OP :: ([D * 16 + A, lowB N]) by rw [H3.out]; unfold insBytes; repeat first | rw [if_pos jo] | rw [if_neg jo])
  clear h1 h2
  go_upto_region 14 with fail
  go_region_held3 (fun w' => w'.cell? ⟨b, 1, none⟩ = some (.int .i64 D) ∧ w'.cell? ⟨b, 2, none⟩ = some (.int .i64 A) ∧ w'.cell? ⟨b, 4, none⟩ = some (.int .i64 N))
   (exact ⟨Keeps.cell jk c1, Keeps.cell jk c2, Keeps.cell jk c4⟩)
   (first | (go_at_call 63; refine (nibbles_any _ _ _ r1 r2 r3 r4).mono ?_; rintro e w' ⟨rfl, rfl⟩) | (refine step_bytes 49 58 [D * 16 + A, N % 256] (HO.keep jk) jt (h := ?_); intro v' w' H0 H1 H4 H5))
  go_wp2
  go_ret2
  refine ⟨_, rfl, ?_, HK.out.trans jk⟩
  rw [HB.out]
  exact own_octs (by simpa [lowB, highB, HD.out] using H0)
 ·obtain ⟨rfl, rfl, rfl, -⟩ := h
  have HB := jH (show insBytes k D A B N Lg = OP :: ([D * 16 + A, B]) by rw [H3.out]; unfold insBytes; repeat first | rw [if_pos jo] | rw [if_neg jo])
  clear h1 h2
  go_upto_region 16 with fail
  go_region_held3 (fun w' => w'.cell? ⟨b, 1, none⟩ = some (.int .i64 D) ∧ w'.cell? ⟨b, 2, none⟩ = some (.int .i64 A) ∧ w'.cell? ⟨b, 3, none⟩ = some (.int .i64 B))
   (exact ⟨Keeps.cell jk c1, Keeps.cell jk c2, Keeps.cell jk c3⟩)
   (first | (go_at_call 63; refine (nibbles_any _ _ _ r1 r2 r3 r4).mono ?_; rintro e w' ⟨rfl, rfl⟩) | (refine step_bytes 62 71 [D * 16 + A, B % 256] (HO.keep jk) jt (h := ?_); intro v' w' H0 H1 H4 H5))
  go_wp2
  go_ret2
  refine ⟨_, rfl, ?_, HK.out.trans jk⟩
  rw [HB.out]
  exact own_octs (by simpa [lowB, highB, HD.out] using H0)
 ·obtain ⟨rfl, rfl, rfl, -⟩ := h
  have HB := jH (show insBytes k D A B N Lg = OP :: ([D * 16 + A, lowB N]) by rw [H3.out]; unfold insBytes; repeat first | rw [if_pos jo] | rw [if_neg jo])
  clear h1 h2
  go_upto_region 14 with fail
  go_region_held3 (fun w' => w'.cell? ⟨b, 1, none⟩ = some (.int .i64 D) ∧ w'.cell? ⟨b, 2, none⟩ = some (.int .i64 A) ∧ w'.cell? ⟨b, 4, none⟩ = some (.int .i64 N))
   (exact ⟨Keeps.cell jk c1, Keeps.cell jk c2, Keeps.cell jk c4⟩)
   (first | (go_at_call 63; refine (nibbles_any _ _ _ r1 r2 r3 r4).mono ?_; rintro e w' ⟨rfl, rfl⟩) | (refine step_bytes 49 58 [D * 16 + A, N % 256] (HO.keep jk) jt (h := ?_); intro v' w' H0 H1 H4 H5))
  go_wp2
  go_ret2
  refine ⟨_, rfl, ?_, HK.out.trans jk⟩
  rw [HB.out]
  exact own_octs (by simpa [lowB, highB, HD.out] using H0)
 ·obtain ⟨rfl, rfl, rfl, -⟩ := h
  have HB := jH (show insBytes k D A B N Lg = OP :: ([B * 16 + A, lowB N]) by rw [H3.out]; unfold insBytes; repeat first | rw [if_pos jo] | rw [if_neg jo])
  clear h1 h2
  go_upto_region 18 with fail
  go_region_held3 (fun w' => w'.cell? ⟨b, 3, none⟩ = some (.int .i64 B) ∧ w'.cell? ⟨b, 2, none⟩ = some (.int .i64 A) ∧ w'.cell? ⟨b, 4, none⟩ = some (.int .i64 N))
   (exact ⟨Keeps.cell jk c3, Keeps.cell jk c2, Keeps.cell jk c4⟩)
   (first | (go_at_call 63; refine (nibbles_any _ _ _ r5 r6 r3 r4).mono ?_; rintro e w' ⟨rfl, rfl⟩) | (refine step_bytes 75 84 [B * 16 + A, N % 256] (HO.keep jk) jt (h := ?_); intro v' w' H0 H1 H4 H5))
  go_wp2
  go_ret2
  refine ⟨_, rfl, ?_, HK.out.trans jk⟩
  rw [HB.out]
  exact own_octs (by simpa [lowB, highB, HD.out] using H0)
 ·obtain ⟨rfl, rfl, rfl, -⟩ := h
  have HB := jH (show insBytes k D A B N Lg = OP :: ([D]) by rw [H3.out]; unfold insBytes; repeat first | rw [if_pos jo] | rw [if_neg jo])
  clear h1 h2
  go_wp2_with (at_builtin; refine wpl_bytes 88 92 [D] (HO.keep jk) jt (h := ?_); intro v' w' H0 H1 H4 H5)
  go_wp2
  go_ret2
  refine ⟨_, rfl, ?_, HK.out.trans jk⟩
  rw [HB.out]
  exact own_octs (by simpa [lowB, highB, HD.out] using H0)
 ·obtain ⟨rfl, rfl, rfl, -⟩ := h
  have HB := jH (show insBytes k D A B N Lg = OP :: ([A]) by rw [H3.out]; unfold insBytes; repeat first | rw [if_pos jo] | rw [if_neg jo])
  clear h1 h2
  go_wp2_with (at_builtin; refine wpl_bytes 96 100 [A] (HO.keep jk) jt (h := ?_); intro v' w' H0 H1 H4 H5)
  go_wp2
  go_ret2
  refine ⟨_, rfl, ?_, HK.out.trans jk⟩
  rw [HB.out]
  exact own_octs (by simpa [lowB, highB, HD.out] using H0)
 ·obtain ⟨rfl, rfl, rfl, -⟩ := h
  have HB := jH (show insBytes k D A B N Lg = OP :: ((A * 16 + B) :: lastB N Lg) by rw [H3.out]; unfold insBytes; repeat first | rw [if_pos jo] | rw [if_neg jo])
  clear h1 h2
  go_wp2_with (first | (go_at_call 63; refine (nibbles_any _ _ _ r3 r4 r5 r6).mono ?_; rintro e w' ⟨rfl, rfl⟩) | (at_builtin; refine wpl_bytes 104 110 [A * 16 + B] (HO.keep jk) jt (h := ?_); intro v' w' H0 H1 H4 H5) | (at_builtin; refine wpl_bytes 111 112 (lastB N Lg) (H0.keep jk) (Blk.below (HL.keep jk) H1 Hv) (hn := Hq) (h := ?_); intro v2' w2' H2 H7 He Hf))
  go_wp2
  go_ret2
  refine ⟨_, rfl, ?_, HK.out.trans jk⟩
  rw [HB.out]
  exact own_octs (by simpa [lowB, highB, HD.out] using H2)
 ·obtain ⟨rfl, rfl, rfl, -⟩ := h
  have HB := jH (show insBytes k D A B N Lg = OP :: (lastB N Lg) by rw [H3.out]; unfold insBytes; repeat first | rw [if_pos jo] | rw [if_neg jo])
  clear h1 h2
  go_wp2_with (at_builtin; refine wpl_bytes 116 117 (lastB N Lg) (HO.keep jk) (HL.keep jk) (hn := Hr) (h := ?_); intro v2' w2' H2 H7 He Hf)
  go_wp2
  go_ret2
  refine ⟨_, rfl, ?_, HK.out.trans jk⟩
  rw [HB.out]
  exact own_octs (by simpa [lowB, highB, HD.out] using H2)
 ·obtain ⟨rfl, rfl, rfl, -⟩ := h
  have HB := jH (show insBytes k D A B N Lg = OP :: ([lowB N, highB N]) by rw [H3.out]; unfold insBytes; repeat first | rw [if_pos jo] | rw [if_neg jo])
  clear h1 h2
  go_wp2_with (first | (go_at_call 62; refine (two_any _ _).mono ?_; rintro e w' ⟨rfl, rfl⟩) | (at_builtin; refine wpl_bytes 121 124 [lowB N, highB N] (HO.keep jk) jt (h := ?_); intro v' w' H0 H1 H4 H5))
  go_wp2
  go_ret2
  refine ⟨_, rfl, ?_, HK.out.trans jk⟩
  rw [HB.out]
  exact own_octs (by simpa [lowB, highB, HD.out] using H0)
 obtain ⟨rfl, rfl, rfl, -⟩ := h
 have HB := jH (show insBytes k D A B N Lg = OP :: ([A, lowB N]) by rw [H3.out]; unfold insBytes; repeat first | rw [if_pos jo] | rw [if_neg jo])
 clear h1 h2
 go_wp2_with (at_builtin; refine wpl_bytes 128 135 [A, N % 256] (HO.keep jk) jt (h := ?_); intro v' w' H0 H1 H4 H5)
 go_wp2
 go_ret2
 refine ⟨_, rfl, ?_, HK.out.trans jk⟩
 rw [HB.out]
 exact own_octs (by simpa [lowB, highB, HD.out] using H0)
theorem encode_bad (K D A B N : Int) (Lg : Bool) (w : World) (ht : Tab w) (h : insFault K D A B N Lg ≠ 0) :
  Calls Tryd.prog 34 #[insV K D A B N Lg] w (GivesE (fun v w' => Octs w' v []) (insFault K D A B N Lg) w) := by
 have HC := check_any K D A B N Lg _ (ht.keep ((Keeps.refl w).alloc (.cells #[.int .i64 K, .int .i64 D, .int .i64 A, .int .i64 B, .int .i64 N, .bool Lg] 64)))
 generalize insFault K D A B N Lg = F at h HC ⊢
 have hF : (F == 0) = false := by simpa using h
 have hF' : (F != 0) = true := by simpa using h
 clear h
 unfold insV at HC ⊢
 go_enter Tryd.func34, Tryd.ntmps34
 go_wp2_with fail
 refine HC.mono ?_
 rintro e w1 ⟨rfl, H0⟩
 go_wp2
 go_ret2
 exact ⟨_, rfl, ⟨none, 0, rfl, by simp, by unfold maxLen; omega, fun _ => rfl, fun h => absurd h (by simp)⟩, ((Keeps.refl _).alloc _).trans H0⟩
theorem encode_any (K D A B N : Int) (Lg : Bool) (w : World) (ht : Tab w) :
  Calls Tryd.prog 34 #[insV K D A B N Lg] w (GivesE (fun v w' => Octs w' v (encAns K D A B N Lg)) (insFault K D A B N Lg) w) := by
 unfold encAns
 by_cases h : insFault K D A B N Lg = 0
 ·rw [if_pos h, h]
  obtain ⟨b1, b2⟩ := insFault_kind h
  obtain ⟨k, rfl⟩ : ∃ k : Nat, K = k := ⟨K.toNat, by omega⟩
  rw [Int.toNat_natCast]
  exact encode_ok k D A B N Lg w ht h
 rw [if_neg h]; exact encode_bad K D A B N Lg w ht h
end Go.Proofs.YtgdamggkaklhjaaDoor
