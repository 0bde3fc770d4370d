/-
  image.writer: a number in so many bytes.
-/
import Derived.Test.YtpgifkhgefbnfaaImgGood
import Derived.Test.YtpgifkhgefbnfaaFoot
import Derived.Test.YtpgifkhgefbnfaaOver
import Derived.Deep.RegionLaw
import Derived.IntWalk
namespace Go.Proofs.Ytpgifkhgefbnfaa
open Go.RowKit BH
set_option maxHeartbeats 4000000
set_option maxRecDepth 100000
/-- a byte as it is laid -/
def cu (x : Int) : List Value := [.int .u8 x]
theorem cu_len (x : Int) : (cu x).length = 1 := rfl
theorem cu_one (x : Int) : ∀ u ∈ cu x, u.oneCell' = true := by intro u hu; simp only [cu, List.mem_singleton] at hu; subst hu; rfl
/-- a slice of bytes, as numbers -/
def Octs (w : World) (v : Value) (l : List Int) : Prop := Arr w v l.length 1 (fun i _ => .int .u8 (nth l i))
theorem own_octs {w : World} {base : Nat} {e : TypeId} {v : Value} {l : List Int} (h : Own w base e 1 cu v l) : Octs w v l :=
  (h.arr cu_len).congr fun i j _ hj => by rw [show j = 0 by omega]; rfl
theorem bytes_octs {w : World} {v : Value} {l : List UInt8} (h : Bytes w v l) : Arr w v (octL l).length 1 (fun i j => (cu (nth (octL l) i)).getD j undef) := by
  have hl : (octL l).length = l.length := octL_len l
  rw [hl]
  refine Arr.congr h fun i j hi hj => ?_
  rw [show j = 0 by omega]
  have : nth (octL l) i = ((nth l i).toNat : Int) := by
    rw [nth_eq _ _ (by rw [hl]; exact hi), nth_eq _ _ hi]; simp [octL]
  rw [this]; rfl
theorem cb_cu (l : List UInt8) : l.flatMap cb = (octL l).flatMap cu := by
  induction l with
  | nil => rfl
  | cons x r ih => simp [octL, cb, cu] at ih ⊢; exact ih

/-- the first k of them -/
theorem bigB_take (n : Int) : ∀ K i, i ≤ K → (bigB n K).take (K - i) ++ bigB n i = bigB n K
  | K, 0, _ => by simp [bigB, bigB_len, List.take_of_length_le]
  | 0, i + 1, h => absurd h (by omega)
  | K + 1, i + 1, h => by
    by_cases e : i = K
    · subst e; simp
    · have := bigB_take n K (i + 1) (by omega)
      rw [show K + 1 - (i + 1) = (K - (i + 1)) + 1 by omega]
      simp only [bigB] at this ⊢
      rw [List.take_succ_cons, List.cons_append, this]
theorem bigB_next (n : Int) (K i : Nat) (h : i < K) : (bigB n K).take (K - i) = (bigB n K).take (K - (i + 1)) ++ [n / 2 ^ (8 * i) % 256] := by
  have h1 := bigB_take n K (i + 1) (by omega)
  have h2 := bigB_take n K i (by omega)
  have h1 := h1.trans h2.symm
  simp only [bigB] at h1
  have : ((bigB n K).take (K - (i + 1)) ++ [n / 2 ^ (8 * i) % 256]) ++ bigB n i = (bigB n K).take (K - i) ++ bigB n i := by simpa using h1
  exact (List.append_cancel_right this).symm

/-- the writer lies in block g: what it has written is l -/
def WrAt (B : Nat) (w0 : World) (g : Nat) (S : Nat → Prop) (F : World → Prop) (l : List Int) (w : World) : Prop := ∃ x, Bld B w0 g 61 (fun _ => False) S F 5 1 cu #[x] x l w
theorem WrAt.below {B : Nat} {w0 : World} {g : Nat} {S : Nat → Prop} {F : World → Prop} {l : List Int} {w : World} (h : WrAt B w0 g S F l w) : Below B w0 w := by
  obtain ⟨x, h⟩ := h; exact h.keep
theorem WrAt.forget {B : Nat} {w0 : World} {g : Nat} {S : Nat → Prop} {F : World → Prop} {l : List Int} {w : World} (h : WrAt B w0 g S F l w) : WrAt B w0 g (fun _ => False) (fun _ => True) l w := by
  obtain ⟨x, h⟩ := h
  exact ⟨x, { h with foot := Foot.none w, SB := fun _ hb => hb.elim, gS := fun hb => hb, vS := fun _ hb => hb.elim, AS := fun _ ha => ha.elim }⟩
theorem WrAt.here {B : Nat} {w0 : World} {g : Nat} {S : Nat → Prop} {F : World → Prop} {l : List Int} {w : World} (h : WrAt B w0 g S F l w) : F w := by
  obtain ⟨x, h⟩ := h; exact h.foot.here
theorem WrAt.keeps {B : Nat} {w0 : World} {g : Nat} {S : Nat → Prop} {F : World → Prop} {l : List Int} {w w' : World} (h : WrAt B w0 g S F l w) (hk : Keeps w w') : WrAt B w0 g S F l w' := by
  obtain ⟨x, h⟩ := h; exact ⟨x, h.keeps hk⟩
theorem blk_foot {w : World} {g : Nat} {o : Obj} (h : Blk w g o) : Foot (fun b => b = g) (fun w => Blk w g o) w := ⟨fun b hb => by subst hb; exact h.lt, fun w' h' => (h' g rfl).trans h⟩
/-- a new block, as part of the rest -/
theorem WrAt.box {B : Nat} {w0 : World} {g : Nat} {l : List Int} {w : World} (h : WrAt B w0 g (fun _ => False) (fun _ => True) l w) (o : Obj) : WrAt B w0 g (fun b => False ∨ b = w.heap.size) (fun w' => True ∧ Blk w' w.heap.size o) l (w.alloc o) := by
  obtain ⟨x, h⟩ := h
  refine ⟨x, (h.keeps ((Keeps.refl _).alloc o)).join (blk_foot (Blk.top w o)) (fun b hb => by subst hb; exact h.Bw) (fun e => ?_) (fun b hb e => ?_) (fun _ ha => ha.elim)⟩
  · have := h.blk.lt; omega
  · subst hb; have := own_lt' h.own e; omega
theorem number_any (B : Nat) (w0 : World) (g : Nat) (S : Nat → Prop) (F : World → Prop) (l : List Int) (n : Int) (K : Nat) (hK : K ≤ 8) (w : World) (hw : WrAt B w0 g S F l w) (hl : l.length ≤ 1000000000) :
    Calls Try.prog 23 #[.pointer (some ⟨g, 0, none⟩), .int .i64 n, .int .i64 K] w fun e w' => e = .returned (.tuple #[]) ∧ WrAt B w0 g S F (l ++ bigB n K) w' := by
  have HW := Lib.hid hw
  clear hw
  go_enter Try.func23, Try.ntmps23
  go_wp2_with fail
  go_loopw [6] (fun s6 wr => ∃ i : Nat, i ≤ K ∧ s6 = .int .i64 ((i : Int) - 1) ∧ WrAt B w0 g S F (l ++ (bigB n K).take (K - i)) wr) (fun s6 _ => (intOf s6 + 1).toNat)
  case atStart => exact ⟨K, Nat.le_refl _, rfl, by rw [Nat.sub_self, List.take_zero, List.append_nil]; exact HW.out⟩
  case round =>
    obtain ⟨i, hi, rfl, x, hb⟩ := hrel
    rcases Nat.eq_zero_or_pos i with h0 | h0
    · subst h0
      rw [Nat.sub_zero, show (bigB n K).take K = bigB n K from List.take_of_length_le (by rw [bigB_len]; omega)] at hb
      have HB := Lib.hid hb
      clear hb
      go_wp2_with fail
      go_end0
      exact ⟨rfl, x, HB.out⟩
    · obtain ⟨j, rfl⟩ : ∃ j, i = j + 1 := ⟨i - 1, by omega⟩
      have e1 : (((j + 1 : Nat) : Int) - 1) = j := by omega
      rw [e1]
      obtain ⟨ax, cx, ex⟩ := own_form' hb.own
      subst ex
      have hlen : (l ++ (bigB n K).take (K - (j + 1))).length ≤ 1000000008 := by
        rw [List.length_append, List.length_take]; omega
      have g0 := hb.blk.cell (j := 0) rfl
      have f0 := hb.blk.thawed 0
      have hgl := hb.blk.lt
      have hle := hb.Bw
      have HN := Lib.hid (bigB_next n K j (by omega))
      obtain ⟨L, hL⟩ : ∃ L, L = l ++ (bigB n K).take (K - (j + 1)) := ⟨_, rfl⟩
      rw [← hL] at hb hlen g0
      have HLL := Lib.hid hL
      clear hL
      have s1 : IntKind.i64.wrap (8 * (j : Int)) = 8 * j := IntWalk.i64_in _ (by omega)
      have s2 : (0 : Int) ≤ 8 * j := by omega
      have s3 : (8 * (j : Int)) ≤ 64 := by omega
      have s4 : (8 * (j : Int)).toNat = 8 * j := by omega
      have S5 := Lib.hid (show IntKind.u8.wrap (n / 2 ^ (8 * j)) = n / 2 ^ (8 * j) % 256 by simp [IntKind.wrap, IntKind.bits, IntKind.signed])
      have HB := Lib.hid hb
      clear hb e1
      go_wp2_with fail
      go_region_law ((refine step_push (by rfl) (.tmp 17) (.tmp 23) 22 (by rfl) Try.underlying22 info_u8 (by rfl) (by decide) (base := B) (f := cu) (l := L) (by rfl) (by exact HB.out.own.keep (by repeat (with_reducible (first | assumption | exact Keeps.refl _ | refine Keeps.alloc ?_ _ | refine Keeps.drew ?_ | refine Keeps.drewN ?_ _ | refine Keeps.trans' ?_ (by assumption) (by assumption))))) (IntKind.u8.wrap (n / 2 ^ (8 * j))) _ _ (by rfl) (by exact Blk.top' _ _ (by first | rfl | simp)) cu_len cu_one (by omega) (by unfold maxLen; omega) (by first | omega | (simp only [sz_alloc]; omega) | (simp only [sz_drew]; omega) | (simp only [sz_alloc, sz_drew]; omega) | (simp only [sz_alloc, sz_drewN]; omega)) ?_; intro v7 w7 hown7 hbel7 hgr7 hfr7; obtain ⟨a7, c7, rfl⟩ := own_form' hown7; have hB7 := Blk.grown (Blk.keep HB.out.blk (by repeat (with_reducible (first | assumption | exact Keeps.refl _ | refine Keeps.alloc ?_ _ | refine Keeps.drew ?_ | refine Keeps.drewN ?_ _ | refine Keeps.trans' ?_ (by assumption) (by assumption))))) hgr7 (fun e => HB.out.vg e.symm); have hc7 := hB7.cell (j := 0) rfl; have hf7 := hB7.thawed 0; have hl7 := hB7.lt; have HB7 := Lib.hid hB7; have HO7 := Lib.hid hown7; have HG7 := Lib.hid hgr7; have HF7 := Lib.hid hfr7; clear hB7 hown7 hbel7 hgr7 hfr7))
      all_goals
        go_wp2_with fail
        go_roundw
        case rel =>
          have hp := Bld.push HB.out (by repeat (with_reducible (first | assumption | exact Keeps.refl _ | refine Keeps.alloc ?_ _ | refine Keeps.drew ?_ | refine Keeps.drewN ?_ _))) HO7.out HG7.out HF7.out 0
          rw [S5.out, List.length_append, List.length_singleton] at hp
          refine ⟨j, by omega, by go_num, ?_⟩
          rw [HN.out, ← List.append_assoc, ← HLL.out]
          exact ⟨_, hp⟩
        case measure => simp [intOf] <;> omega

/-- the writer as it begins: the sign lies in a row of its own, which is full -/
def WrBegin (B : Nat) (w0 : World) (gb g : Nat) (w : World) : Prop :=
  Below B w0 w ∧ B ≤ gb ∧ gb < g ∧ Blk w gb (.cells #[.int .u8 98, .int .u8 104, .int .u8 49, .int .u8 10] 5 (4, 5)) ∧ Blk w g (.cells #[.slice (some ⟨gb, 0, none⟩) 4 4] 61)
theorem sign_cells {w : World} {gb : Nat} (h : Blk w gb (.cells #[.int .u8 98, .int .u8 104, .int .u8 49, .int .u8 10] 5 (4, 5))) :
    ∀ j u, (([98, 104, 49, 10] : List Int).flatMap cu)[j]? = some u → w.cell? ((⟨gb, 0, none⟩ : Addr).add j) = some u :=
  row_cells_at h fun j u hu => by
    have e : (([98, 104, 49, 10] : List Int).flatMap cu) = [.int .u8 98, .int .u8 104, .int .u8 49, .int .u8 10] := rfl
    rw [e] at hu
    simpa using hu
theorem number_first (B : Nat) (w0 : World) (gb g : Nat) (n : Int) (w : World) (hw : WrBegin B w0 gb g w) :
    Calls Try.prog 23 #[.pointer (some ⟨g, 0, none⟩), .int .i64 n, .int .i64 2] w fun e w' => e = .returned (.tuple #[]) ∧ WrAt B w0 g (fun _ => False) (fun _ => True) ([98, 104, 49, 10] ++ bigB n 2) w' := by
  have HW := Lib.hid hw
  clear hw
  go_enter Try.func23, Try.ntmps23
  go_wp2_with fail
  go_loopw [6] (fun s6 wr => (s6 = .int .i64 1 ∧ WrBegin B w0 gb g wr) ∨ ∃ i : Nat, i ≤ 1 ∧ s6 = .int .i64 ((i : Int) - 1) ∧ WrAt B w0 g (fun _ => False) (fun _ => True) ([98, 104, 49, 10] ++ (bigB n 2).take (2 - i)) wr) (fun s6 _ => (intOf s6 + 1).toNat)
  case atStart => exact Or.inl ⟨rfl, HW.out⟩
  case round =>
    rcases hrel with ⟨rfl, hbel, hBg, hgg, hb1, hb2⟩ | ⟨i, hi, rfl, x, hb⟩
    · have g0 := hb2.cell (j := 0) rfl
      have f0 := hb2.thawed 0
      have hgl := hb2.lt
      have hgbl := hb1.lt
      have hsz : B ≤ wr.heap.size := by omega
      have s1 : IntKind.i64.wrap (8 : Int) = 8 := IntWalk.i64_in _ (by omega)
      have S5 := Lib.hid (show IntKind.u8.wrap (n / 256) = n / 256 % 256 by simp [IntKind.wrap, IntKind.bits, IntKind.signed])
      have H1 := Lib.hid hb1
      have H2 := Lib.hid hb2
      have HL := Lib.hid hbel
      clear hb1 hb2 hbel
      go_wp2_with fail
      go_region_law ((refine step_over (by rfl) (.tmp 17) (.tmp 23) 22 22 (by rfl) Try.underlying22 info_u8 (by rfl) (base := B) (f := cu) (l := [98, 104, 49, 10]) (g := gb) (by rfl) cu_len (by exact sign_cells (H1.out.keep (by repeat (with_reducible (first | assumption | exact Keeps.refl _ | refine Keeps.alloc ?_ _ | refine Keeps.drew ?_ | refine Keeps.drewN ?_ _ | refine Keeps.trans' ?_ (by assumption) (by assumption)))))) (ys := [IntKind.u8.wrap (n / 256)]) (by rfl) (by exact Src.ofSlice _ Try.underlying22 _ 1 _ _ rfl (by exact row_cells_at (Blk.top' _ _ (by first | rfl | simp)) (fun j u hu => by simpa [cu] using hu)) (by simp [cu]; rfl)) (by simp) (by simp) (by simp) (by simp [maxLen]) (by first | omega | (simp only [sz_alloc]; omega) | (simp only [sz_drew]; omega) | (simp only [sz_alloc, sz_drew]; omega) | (simp only [sz_alloc, sz_drewN]; omega)) ?_; intro v7 w7 hown7 hk7 hfr7; obtain ⟨a7, c7, rfl⟩ := own_form' hown7; have hB7 := Blk.keep H2.out (Keeps.trans (by repeat (with_reducible (first | assumption | exact Keeps.refl _ | refine Keeps.alloc ?_ _ | refine Keeps.drew ?_ | refine Keeps.drewN ?_ _ | refine Keeps.trans' ?_ (by assumption) (by assumption)))) hk7); have hc7 := hB7.cell (j := 0) rfl; have hf7 := hB7.thawed 0; have hl7 := hB7.lt; have HB7 := Lib.hid hB7; have HO7 := Lib.hid hown7; have HK7 := Lib.hid hk7; have HF7 := Lib.hid hfr7; clear hB7 hown7 hk7 hfr7))
      all_goals
        go_wp2_with fail
        go_roundw
        case rel =>
          have ho := HO7.out
          rw [S5.out] at ho
          have hk : Keeps wr w7 := Keeps.trans (by repeat (with_reducible (first | assumption | exact Keeps.refl _ | refine Keeps.alloc ?_ _ | refine Keeps.drew ?_ | refine Keeps.drewN ?_ _))) HK7.out
          have hne : (Value.slice a7 5 c7).ownBlock ≠ some g := fun e => by have := HF7.out _ e; simp only [sz_alloc, sz_drew, sz_drewN] at this; omega
          have hset := grown_setCell w7 g 0 (Value.slice a7 5 c7)
          refine Or.inr ⟨1, by omega, by go_num, _, ⟨Below.setCell (Below.trans HL.out (Below.mono hk hsz)) (show B ≤ g by omega) _, by omega, by rw [sz_setCell]; have := hk.size; omega, (H2.out.keep hk).set 0 _, Foot.none _, (fun _ h => h.elim), ?_, (fun h => h), hne, (fun _ h => h.elim), (fun _ h => h.elim), (fun h => h), (fun _ h => h.elim), (fun _ h => h.elim)⟩⟩
          exact ho.other hset fun q hq e => hne (hq.trans e)
        case measure => simp [intOf] <;> omega
    · rcases Nat.eq_zero_or_pos i with h0 | h0
      · subst h0
        rw [Nat.sub_zero, show (bigB n 2).take 2 = bigB n 2 from List.take_of_length_le (by rw [bigB_len]; omega)] at hb
        have HB := Lib.hid hb
        clear hb
        go_wp2_with fail
        go_end0
        exact ⟨rfl, x, HB.out⟩
      · obtain ⟨j, rfl⟩ : ∃ j, i = j + 1 := ⟨i - 1, by omega⟩
        have e1 : (((j + 1 : Nat) : Int) - 1) = j := by omega
        rw [e1]
        obtain ⟨ax, cx, ex⟩ := own_form' hb.own
        subst ex
        have hlen : ([98, 104, 49, 10] ++ (bigB n 2).take (2 - (j + 1))).length ≤ 1000000008 := by
          rw [List.length_append, List.length_take]; simp; omega
        have g0 := hb.blk.cell (j := 0) rfl
        have f0 := hb.blk.thawed 0
        have hgl := hb.blk.lt
        have hle := hb.Bw
        have HN := Lib.hid (bigB_next n 2 j (by omega))
        obtain ⟨L, hL⟩ : ∃ L, L = [98, 104, 49, 10] ++ (bigB n 2).take (2 - (j + 1)) := ⟨_, rfl⟩
        rw [← hL] at hb hlen g0
        have HLL := Lib.hid hL
        clear hL
        have s1 : IntKind.i64.wrap (8 * (j : Int)) = 8 * j := IntWalk.i64_in _ (by omega)
        have s2 : (0 : Int) ≤ 8 * j := by omega
        have s3 : (8 * (j : Int)) ≤ 64 := by omega
        have s4 : (8 * (j : Int)).toNat = 8 * j := by omega
        have S5 := Lib.hid (show IntKind.u8.wrap (n / 2 ^ (8 * j)) = n / 2 ^ (8 * j) % 256 by simp [IntKind.wrap, IntKind.bits, IntKind.signed])
        have HB := Lib.hid hb
        clear hb e1
        go_wp2_with fail
        go_region_law ((refine step_push (by rfl) (.tmp 17) (.tmp 23) 22 (by rfl) Try.underlying22 info_u8 (by rfl) (by decide) (base := B) (f := cu) (l := L) (by rfl) (by exact HB.out.own.keep (by repeat (with_reducible (first | assumption | exact Keeps.refl _ | refine Keeps.alloc ?_ _ | refine Keeps.drew ?_ | refine Keeps.drewN ?_ _ | refine Keeps.trans' ?_ (by assumption) (by assumption))))) (IntKind.u8.wrap (n / 2 ^ (8 * j))) _ _ (by rfl) (by exact Blk.top' _ _ (by first | rfl | simp)) cu_len cu_one (by omega) (by unfold maxLen; omega) (by first | omega | (simp only [sz_alloc]; omega) | (simp only [sz_drew]; omega) | (simp only [sz_alloc, sz_drew]; omega) | (simp only [sz_alloc, sz_drewN]; omega)) ?_; intro v7 w7 hown7 hbel7 hgr7 hfr7; obtain ⟨a7, c7, rfl⟩ := own_form' hown7; have hB7 := Blk.grown (Blk.keep HB.out.blk (by repeat (with_reducible (first | assumption | exact Keeps.refl _ | refine Keeps.alloc ?_ _ | refine Keeps.drew ?_ | refine Keeps.drewN ?_ _ | refine Keeps.trans' ?_ (by assumption) (by assumption))))) hgr7 (fun e => HB.out.vg e.symm); have hc7 := hB7.cell (j := 0) rfl; have hf7 := hB7.thawed 0; have hl7 := hB7.lt; have HB7 := Lib.hid hB7; have HO7 := Lib.hid hown7; have HG7 := Lib.hid hgr7; have HF7 := Lib.hid hfr7; clear hB7 hown7 hbel7 hgr7 hfr7))
        all_goals
          go_wp2_with fail
          go_roundw
          case rel =>
            have hp := Bld.push HB.out (by repeat (with_reducible (first | assumption | exact Keeps.refl _ | refine Keeps.alloc ?_ _ | refine Keeps.drew ?_ | refine Keeps.drewN ?_ _))) HO7.out HG7.out HF7.out 0
            rw [S5.out, List.length_append, List.length_singleton] at hp
            refine Or.inr ⟨j, by omega, by go_num, ?_⟩
            rw [HN.out, ← List.append_assoc, ← HLL.out]
            exact ⟨_, hp⟩
          case measure => simp [intOf] <;> omega
end Go.Proofs.Ytpgifkhgefbnfaa
