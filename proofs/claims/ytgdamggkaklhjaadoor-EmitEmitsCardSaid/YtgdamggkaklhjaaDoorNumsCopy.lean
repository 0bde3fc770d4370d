/-
Chains in memory: of each block its chain's number, the chai
-/
import Derived.Test.YtgdamggkaklhjaaDoorMapEnt
import Derived.Test.YtgdamggkaklhjaaDoorIsaLaid
set_option linter.all false
section
namespace Go.Proofs.YtgdamggkaklhjaaDoor.BH
open Go.RowKit
set_option maxRecDepth 100000
structure Only (S : Nat → Prop) (w w' : World) : Prop where
 os : w'.os = w.os
 tape : w'.tape = w.tape
 output : w'.output = w.output
 size : w.heap.size ≤ w'.heap.size
 block : ∀ b, b < w.heap.size → ¬ S b → w'.heap[b]? = w.heap[b]?
theorem Only.refl (S : Nat → Prop) (w : World) : Only S w w := ⟨rfl, rfl, rfl, Nat.le_refl _, fun _ _ _ => rfl⟩
theorem Only.trans {S : Nat → Prop} {a b c : World} (h : Only S a b) (k : Only S b c) : Only S a c :=
 ⟨k.os.trans h.os, k.tape.trans h.tape, k.output.trans h.output, Nat.le_trans h.size k.size, fun x hx hs => (k.block x (Nat.lt_of_lt_of_le hx h.size) hs).trans (h.block x hx hs)⟩
theorem Only.trans' {S T : Nat → Prop} {a b c : World} (h : Only S a b) (k : Only T b c) (ht : ∀ x, T x → S x ∨ a.heap.size ≤ x) : Only S a c :=
 ⟨k.os.trans h.os, k.tape.trans h.tape, k.output.trans h.output, Nat.le_trans h.size k.size, fun x hx hs => (k.block x (Nat.lt_of_lt_of_le hx h.size) fun q => by rcases ht x q with q | q; exact hs q; omega).trans (h.block x hx hs)⟩
theorem Only.mono {S T : Nat → Prop} {a b : World} (h : Only S a b) (hst : ∀ x, S x → T x) : Only T a b := ⟨h.os, h.tape, h.output, h.size, fun x hx hs => h.block x hx fun q => hs (hst x q)⟩
theorem Keeps.only {w w' : World} (h : Keeps w w') (S : Nat → Prop) : Only S w w' := ⟨Below.os h, Below.tape h, Below.output h, Below.size h, fun b hb _ => Below.block h b hb⟩
theorem grown_only {w w' : World} {row : Option Nat} (h : w.grownBy w' row) {S : Nat → Prop} (hs : ∀ b, row = some b → S b) : Only S w w' := ⟨h.os, h.tape, h.output, h.size, fun b hb hn => h.block b hb fun e => hn (hs b e.symm)⟩
theorem Only.below {S : Nat → Prop} {w w' : World} (h : Only S w w') {B : Nat} (hS : ∀ b, S b → B ≤ b) (hB : B ≤ w.heap.size) : Below B w w' :=
 ⟨h.os, h.tape, h.output, h.size, fun b hb => h.block b jo fun q => by have := hS b q; omega⟩
theorem Only.set {S : Nat → Prop} (w : World) (b o : Nat) (u : Value) (h : S b) : Only S w (w.setCell ⟨b, o, none⟩ u) := grown_only (grown_setCell w b o u) fun x e => by cases e; exact h
theorem Own.only {α : Type} {w w' : World} {S : Nat → Prop} (ho : Only S w w') {base : Nat} {e : TypeId} {k : Nat} {f : α → List Value} {v : Value} {l : List α} (h : Own w base e k f v l) (hne : ∀ g, v.ownBlock = some g → ¬ S g) : Own w' base e k f v l := by
 obtain ⟨h1, h2⟩ := h
 refine ⟨h1, ?_⟩
 rcases h2 with h2 | ⟨g, cap, cur, hv, hb, H0, r⟩
 ·exact Or.inl h2
 refine Or.inr ⟨g, cap, cur, hv, hb, ?_, r⟩
 rw [ho.block g (lt_of_block H0) (hne g (by rw [hv]; rfl))]; exact H0
theorem Blk.only {w w' : World} {S : Nat → Prop} (ho : Only S w w') {g : Nat} {o : Obj} (h : Blk w g o) (hn : ¬ S g) : Blk w' g o := (ho.block g h.lt hn).trans h
theorem own_set1 {α : Type} [Inhabited α] {w : World} {base : Nat} {e : TypeId} {h : α → Value} {v : Value} {l : List α} (H : Own w base e 1 (fun x => [h x]) v l) {i : Nat} (hi : i < l.length) :
  ∃ g cap, v = .slice (some ⟨g, 0, none⟩) l.length cap ∧ base ≤ g ∧ l.length ≤ cap ∧ cap ≤ maxLen ∧ g < w.heap.size ∧ (∀ j, j < l.length → w.cell? ⟨g, j, none⟩ = some (h (nth l j))) ∧ (∀ j, w.frozen? ⟨g, j, none⟩ = false) ∧
   ∀ y, Own (w.setCell ⟨g, i, none⟩ (h y)) base e 1 (fun x => [h x]) v (l.set i y) := by
 obtain ⟨h1, h2⟩ := H
 rcases h2 with ⟨rfl, h0⟩ | ⟨g, cap, cur, rfl, hb, hg, hn, hc, hs, ht⟩
 ·omega
 have hm : ∀ l : List α, (l.flatMap fun x => [h x]) = l.map h := fun l => by
  induction l with
  | nil => rfl
  | cons x r ih => rw [List.flatMap_cons, ih]; rfl
 refine ⟨g, cap, rfl, hb, hn, hc, lt_of_block hg, fun j hj => ?_, fun j => Blk.thawed hg j, fun y => ⟨?_, Or.inr ⟨g, cap, cur.setIfInBounds i (h y), ?_, hb, Blk.set hg i (h y), ?_, hc, ?_, ?_⟩⟩⟩
 ·refine Blk.cell hg ?_
  rw [hm] at ht
  have : (cur.toList.take (l.length * 1))[j]? = (l.map h)[j]? := by rw [ht]
  rw [List.getElem?_take_of_lt jo, List.getElem?_map, List.getElem?_eq_getElem hj] at this
  rw [← Array.getElem?_toList, this, nth_eq _ _ hj]
  rfl
 ·rw [hm, List.length_map]; simp
 ·rw [List.length_set]
 ·rw [List.length_set]; exact hn
 ·rw [Array.size_setIfInBounds]; exact hs
 rw [hm] at ht ⊢
 rw [Array.toList_setIfInBounds, List.take_set, List.length_set, ht, List.map_set]
theorem own_read1 {α : Type} [Inhabited α] {w : World} {base : Nat} {e : TypeId} {h : α → Value} {v : Value} {l : List α} (H : Own w base e 1 (fun x => [h x]) v l) (hl : 0 < l.length) :
  ∃ g cap, v = .slice (some ⟨g, 0, none⟩) l.length cap ∧ base ≤ g ∧ l.length ≤ cap ∧ cap ≤ maxLen ∧ g < w.heap.size ∧ (∀ j, j < l.length → w.cell? ⟨g, j, none⟩ = some (h (nth l j))) ∧ (∀ j, w.frozen? ⟨g, j, none⟩ = false) := by
 obtain ⟨g, cap, h1, h2, h3, h4, h5, h6, h7, _⟩ := own_set1 H hl
 exact ⟨g, cap, h1, h2, h3, h4, h5, h6, h7⟩
def ChF (vo vl : Value) (vs : List Sle) (b : Nat) : Prop := vo.ownBlock = some b ∨ vl.ownBlock = some b ∨ ∃ j, j < vs.length ∧ (nth vs j).v.ownBlock = some b
structure ChSt (w : World) (B g : Nat) (T tI tC : TypeId) (vo vl : Value) (vs : List Sle) (s : Cs) : Prop where
 blk : Blk w g (.cells #[vo, vl] T)
 oo : Own w B tI 1 ci vo s.of
 ol : Own w B tC 1 sle vl vs
 len : vs.length = s.ls.length
 row : ∀ j, j < vs.length → Own w B tI 1 ci (nth vs j).v (nth s.ls j)
 gB : g < B
 ne1 : ∀ b, vo.ownBlock = some b → vl.ownBlock ≠ some b
 ne2 : ∀ j b, j < vs.length → (nth vs j).v.ownBlock = some b → vo.ownBlock ≠ some b ∧ vl.ownBlock ≠ some b
 ne3 : ∀ i j b, i < vs.length → j < vs.length → i ≠ j → (nth vs i).v.ownBlock = some b → (nth vs j).v.ownBlock ≠ some b
section
variable {w w' : World} {B g : Nat} {T tI tC : TypeId} {vo vl : Value} {vs : List Sle} {s : Cs}
theorem ChSt.foot (h : ChSt w B g T tI tC vo vl vs s) {b : Nat} (hb : ChF vo vl vs b) : B ≤ b ∧ b < w.heap.size := by
 rcases hb with q | q | ⟨j, hj, q⟩
 ·exact ⟨h.oo.row b q, own_lt' h.oo q⟩
 ·exact ⟨h.ol.row b q, own_lt' h.ol q⟩
 exact ⟨(h.row j hj).row b q, own_lt' (h.row j hj) q⟩
theorem ChSt.only (h : ChSt w B g T tI tC vo vl vs s) {S : Nat → Prop} (ho : Only S w w') (hg : ¬ S g) (hS : ∀ b, ChF vo vl vs b → ¬ S b) : ChSt w' B g T tI tC vo vl vs s :=
 { h with
  blk := h.blk.only ho hg
  oo := Own.only ho h.oo fun b q => hS b (Or.inl q)
  ol := Own.only ho h.ol fun b q => hS b (Or.inr (Or.inl q))
  row := fun j hj => Own.only ho (h.row j hj) fun b q => hS b (Or.inr (Or.inr ⟨j, hj, q⟩)) }
theorem ChSt.keep (h : ChSt w B g T tI tC vo vl vs s) (hk : Keeps w w') : ChSt w' B g T tI tC vo vl vs s := h.only (hk.only fun _ => False) (fun q => q) (fun _ _ q => q)
end
end Go.Proofs.YtgdamggkaklhjaaDoor.BH
end
section
namespace Go.Proofs.YtgdamggkaklhjaaDoor
open Go.RowKit BH
set_option maxHeartbeats 1000000
set_option maxRecDepth 100000

theorem nmByte_eq (s : ByteArray) (k : Nat) (h : k < s.size) : nmByte s k = (s[k].toNat : Int) := by
 unfold nmByte
 rw [nth_eq _ _ (by simpa using h)]
 rfl
theorem run_bytes_arr {P : Program} (w : World) (src dst e : TypeId) (s : ByteArray) (hs : P.underlying src = some .string) (hd : P.underlying dst = some (.slice e)) (he : P.underlying e = some (.int .u8)) (hsz : s.size ≤ maxLen) :
  ∃ v w', (convert src dst (.string s)).run P w = .ok v w' ∧ Arr w' v s.size 1 (fun i _ => .int .u8 (nmByte s i)) ∧ Keeps w w' := by
 refine ⟨_, _, run_bytes_of_string w src dst e s hs hd he, ?_, ((Keeps.refl w).drew).alloc _⟩
 refine ⟨_, _, rfl, ?_, ?_, (fun h => by cases h), fun _ => ⟨w.heap.size, 0, rfl, fun i j hi hj => ?_⟩⟩
 ·exact grownCap_ge _ _ _ _
 ·exact grownCap_le_maxLen _ _ _ _ hsz
 obtain rfl : j = 0 := by omega
 rw [show w.heap.size = w.drew.heap.size from rfl, World.cell?_alloc_mark]
 simp only []
 rw [nmByte_eq s i hi]
 unfold bytesRow
 rw [Array.getElem?_append_left (by simpa using hi)]
 simp [hi]
 rfl

theorem ret_bool {a b : Bool} (h : a = b) : Ending.returned (.bool a) = .returned (.bool b) := by rw [h]
theorem nameCh_any (c : Int) (w : World) : Calls Tryd.prog 92 #[.int .u8 c] w fun e w' => e = .returned (.bool (!chOk c)) ∧ w = w' := by
 have HC := jH (show chOk c = decide ((97 ≤ c ∧ c ≤ 122) ∨ (48 ≤ c ∧ c ≤ 57) ∨ c = 95 ∨ c = 46) from rfl)
 generalize chOk c = q at HC ⊢
 go_enter Tryd.func92, Tryd.ntmps92
 go_wp2
 all_goals
  go_ret
  refine ⟨?_, rfl⟩
  refine ret_bool ?_
  rw [HC.out, Bool.eq_iff_iff]
  simp
  try omega

theorem nameOk_no (s : ByteArray) (h : ¬ (1 ≤ s.size ∧ s.size ≤ 16)) : nameOk s = false := by
 unfold nameOk; rw [decide_eq_false h]; rfl
theorem nameOk_yes (s : ByteArray) (h : 1 ≤ s.size ∧ s.size ≤ 16) : nameOk s = !(anyN (fun i => !chOk (nmByte s i)) s.size) := by
 unfold nameOk; rw [decide_eq_true h]; rfl
theorem name_any (s : ByteArray) (w : World) : Calls Tryd.prog 69 #[.string s] w fun e w' => e = .returned (.bool (nameOk s)) ∧ Keeps w w' := by
 have eg : ∀ args w, (callFunc 92 args).run Tryd.prog w = .ok (.enter 92 args) w := enters_of Tryd.func92 jx rfl
 have EG := jH eg
 clear eg
 by_cases h0 : s.size = 0
 ·have HN := jH (nameOk_no s jo)
  have he : s = ByteArray.empty := by
   obtain ⟨⟨l⟩⟩ := s
   cases l with
   | nil => rfl
   | cons a r => simp [ByteArray.size] at h0
  subst he
  go_enter Tryd.func69, Tryd.ntmps69
  go_wp2
  go_ret
  exact ⟨ret_bool HN.out.symm, Keeps.refl _⟩
 by_cases h1 : 16 < s.size
 ·have HN := jH (nameOk_no s jo)
  go_enter Tryd.func69, Tryd.ntmps69
  go_wp2
  all_goals
   go_ret
   exact ⟨ret_bool HN.out.symm, Keeps.refl _⟩
 have HN := jH (nameOk_yes s jo)
 have H0 : s.toList.isEmpty = false := by
  rw [ByteArray.toList_eq]
  cases hl : s.data.toList with
  | nil => exact absurd (show s.size = 0 by rw [← ByteArray.size_data, ← Array.length_toList, hl]; rfl) h0
  | cons _ _ => rfl
 have H1 : ¬ s.toList = [] := by intro h; rw [h] at H0; cases H0
 have h2 : decide (16 < (s.size : Int)) = false := by simp; omega
 obtain ⟨bv, W1, H2, ha, hk⟩ := run_bytes_arr (P := Tryd.prog) w 9 22 5 s Tryd.underlying9 Tryd.underlying22 Tryd.underlying5 (by unfold maxLen; omega)
 have hp : PredIn Tryd.prog 92 #[] s.size (fun i => .int .u8 (nmByte s i)) (fun i => !chOk (nmByte s i)) W1 :=
  fun W i hi hW => (nameCh_any (nmByte s i) W).mono fun e w' ⟨he, hw⟩ => ⟨he, hw ▸ Keeps.refl _⟩
 have HC := jH (containsFunc_u8 bv s.size (fun i _ => .int .u8 (nmByte s i)) (fun i => !chOk (nmByte s i)) 92 #[] W1 ha EG.out hp)
 clear hp ha
 generalize anyN (fun i => !chOk (nmByte s i)) s.size = q at HN HC
 go_enter Tryd.func69, Tryd.ntmps69
 go_wp2_with fail
 refine HC.out.mono ?_
 rintro e w1 ⟨rfl, H3⟩
 go_wp2
 go_ret
 exact ⟨ret_bool (by rw [HN.out]), hk.trans H3⟩

theorem nameMay_any (s : ByteArray) (w : World) : Calls Tryd.prog 66 #[.string s] w fun e w' => e = .returned (.bool (nameOk s)) ∧ w = w' := by
 by_cases h1 : 1 ≤ s.size ∧ s.size ≤ 16
 ·have HN := jH (nameOk_yes s h1)
  obtain ⟨h2, h3⟩ := h1
  go_enter Tryd.func66, Tryd.ntmps66
  go_wp2_with (go_at_call 20; refine (in_yes _ _ _ _ jo jo).mono ?_; rintro e w' ⟨rfl, rfl⟩)
  go_loop [3, 4] (fun i _ => ∃ k : Nat, k ≤ s.size ∧ i = .int .i64 k ∧ Hid (∀ j, j < k → chOk (nmByte s j) = true)) (fun i _ => s.size - (intOf i).toNat)
  case atStart => exact ⟨0, Nat.zero_le _, rfl, fun j hj => absurd hj (Nat.not_lt_zero _)⟩
  case round =>
  obtain ⟨k, hk, rfl, H0⟩ := hrel
  by_cases hlt : k < s.size
  ·have hb := nmByte_eq s k hlt
   have HB := jH hb
   clear hb
   by_cases hc : (97 ≤ (s[k].toNat : Int) ∧ (s[k].toNat : Int) ≤ 122) ∨ (48 ≤ (s[k].toNat : Int) ∧ (s[k].toNat : Int) ≤ 57) ∨ (s[k].toNat : Int) = 95 ∨ (s[k].toNat : Int) = 46
   ·have HK := jH (show chOk (nmByte s k) = true by rw [HB.out]; exact decide_eq_true hc)
    have HC := jH hc
    clear hc
    go_wp2
    all_goals first
     | (go_round
        case rel => exact ⟨k + 1, by omega, by go_num, fun j hj => (by
         by_cases e : j = k
         ·subst e; exact HK.out
         exact H0.out j jo)⟩
        case measure => simp [intOf]; omega)
     | (exfalso; have H1 := HC.out; simp only [Bool.not_eq_true', decide_eq_false_iff_not, beq_eq_false_iff_ne, ne_eq] at *; omega)
   have HR := jH (show nameOk s = false by
    rw [HN.out, anyN_yes (k := k) hlt]
    ·rfl
    show (!chOk (nmByte s k)) = true
    rw [HB.out]
    show (!decide _) = true
    rw [decide_eq_false hc]
    rfl)
   have HC := jH hc
   clear hc
   go_wp2
   all_goals first
    | (go_ret
       exact ⟨ret_bool HR.out.symm, rfl⟩)
    | (exfalso; have H1 := HC.out; simp only [Bool.not_eq_false', decide_eq_true_eq, beq_iff_eq] at *; omega)
  go_wp2
  go_ret
  refine ⟨ret_bool ?_, rfl⟩
  rw [HN.out, anyN_no (fun j hj => by rw [H0.out j jo]; rfl)]
  rfl
 have HN := jH (nameOk_no s h1)
 go_enter Tryd.func66, Tryd.ntmps66
 go_wp2_with (go_at_call 20; refine (in_no _ _ _ _ jo).mono ?_; rintro e w' ⟨rfl, rfl⟩)
 go_ret
 exact ⟨ret_bool HN.out.symm, rfl⟩

theorem lines_any (v : Value) (m : Img) (w : World) (hv : ImgAt w v m) :
  Calls Tryd.prog 51 #[v] w fun e w' => e = .returned (.int .i64 (linesFault m)) ∧ Keeps w w' := by
 obtain ⟨v0, v1, v2, v3, v4, rfl, ⟨H5, c0, rfl, t1, t2, -, -⟩, -, -, -, ao, H6, rfl, h1, h2, -, h3⟩ := hv
 unfold maxLen at h2 t2
 obtain ⟨W1, H3, H7, H8, i0, i1, i2, i3, i4, i5⟩ := box6 w 28 (.slice H5 m.Text.length c0) v1 v2 v3 (.slice ao m.Lines.length H6) (.int .i64 m.Entry)
 have HW := jH H3
 clear H3 i1 i2 i3 i5
 by_cases hbig : 4000 < m.Lines.length
 ·have HF := jH (show linesFault m = 1 by unfold linesFault; rw [if_pos hbig])
  clear h3 i0 i4
  go_enter Tryd.func51, Tryd.ntmps51
  go_wp2
  go_ret
  exact ⟨by rw [HF.out]; rfl, (Keeps.refl _).alloc _⟩
 have HF := jH (show linesFault m = scan (lineBad m) 0 (m.Lines.length - 0) 0 by unfold linesFault; rw [if_neg hbig]; rfl)
 go_enter Tryd.func51, Tryd.ntmps51
 go_wp2
 rw [← HW.out]
 go_loopw [3, 5, 13] (fun s3 _ s13 wr => ∃ k : Nat, k ≤ m.Lines.length ∧ s3 = .int .i64 (lastAt m.Lines k) ∧ s13 = .int .i64 k ∧ Keeps W1 wr ∧ Hid (scan (lineBad m) 0 (m.Lines.length - k) k = linesFault m)) (fun _ _ i _ => m.Lines.length - (intOf i).toNat)
 case atStart => exact ⟨0, Nat.zero_le _, rfl, rfl, Keeps.refl _, HF.out.symm⟩
 case round =>
 obtain ⟨k, hk, rfl, rfl, H0, H1⟩ := hrel
 have j0 := H0.cell i0
 have j4 := H0.cell i4
 have H2 := H7.trans H0
 by_cases hlt : k < m.Lines.length
 ·obtain ⟨b, H4, rfl, hc⟩ := h3 jo
  have hc0 := jc wr b (H4 + k * 2) ((nth m.Lines k).At) (H2.cell (hc k 0 hlt jo))
  have hc1 := jc wr b (H4 + k * 2 + 1) ((nth m.Lines k).N) (H2.cell (hc k 1 hlt jo))
  have hin : w.heap.size < wr.heap.size := Nat.lt_of_lt_of_le H8 H0.size
  clear hc h3 i0 i4
  by_cases hb : lineBad m k = 0
  ·obtain ⟨g1, g2, g3, g4⟩ := lineBad_zero hb
   have HB := jH (scan_step hlt hb H1.out)
   have g5 : decide ((nth m.Lines k).N < 0) = false := by simpa using g1
   have g6 : decide ((nth m.Lines k).At ≤ lastAt m.Lines k) = false := by simpa using g3
   clear hb H1
   go_wp2
   go_roundw
   case rel => exact ⟨k + 1, by omega, rfl, by go_num, H0.alloc _, HB.out⟩
   case measure => exact jm
  have HB := jH (scan_stop hlt hb H1.out)
  rcases lineBad_cases hb with ⟨hN, hv⟩ | ⟨hN, hA, hv⟩
  all_goals
   have HV := jH (HB.out.trans hv)
   clear hb H1 hv
   go_wp2
   all_goals first
    | (exfalso; omega)
    | (go_ret
       exact ⟨by rw [HV.out]; rfl, H2.alloc _⟩)
 clear h3
 go_wp2
 go_ret
 refine ⟨?_, H2⟩
 rw [scan_end jo H1.out]
 rfl

theorem numsCopy_any (v : Value) (l : List Int) (w : World) (hv : Ints w v l) (hl : l.length * 8 ≤ 140737488355328) :
  Calls Tryd.prog 9 #[v] w (Gives (fun v' w' => Own w' w.heap.size 3 1 ci v' l) w) := by
 obtain ⟨ao, cap, rfl, h1, h2, -, h3⟩ := hv
 unfold maxLen at h2
 go_enter Tryd.func9, Tryd.ntmps9
 go_wp2_with fail
 go_loopw [3, 4] (fun s3 s4 wr => ∃ k : Nat, k ≤ l.length ∧ s4 = .int .i64 k ∧ Keeps w wr ∧ Own wr w.heap.size 3 1 ci s3 (l.take k)) (fun _ s4 _ => l.length - (intOf s4).toNat)
 case atStart => exact ⟨0, Nat.zero_le _, rfl, Keeps.refl _, Own.nil _ _ _ _ _⟩
 case round =>
 obtain ⟨k, hk, rfl, H3, ho⟩ := hrel
 have HO := jH ho
 obtain ⟨a3, c3, e3⟩ := own_form' ho
 have H0 : (l.take k).length = k := by simp; omega
 have hsz := H3.size
 clear ho
 by_cases hlt : k < l.length
 ·obtain ⟨b, H4, rfl, hc⟩ := h3 jo
  have c0 := jc wr b (H4 + k) (nth l k) (H3.cell (by simpa using hc k 0 hlt jo))
  have HS := jH (take_succ_nth l k hlt)
  generalize nth l k = x at *
  clear hc h3 e3
  go_wp2_with (at_builtin; refine wpList_pushes jr (.tmp 11) (.tmp 16) 25 jr Tryd.underlying25 info_int jr jd (base := w.heap.size) (l := l.take k) jr (by exact HO.out.keep ku5) [x] _ _ jr jt ci_len ci_one (by rw [H0]; simp; omega) (by rw [H0]; simp [maxLen]; omega) (by simp only [sz_alloc]; omega) ?_; intro v' w' H1 H2 H5 H6)
  rw [← HS.out] at H1
  have HW := jH H1
  have H7 : Keeps w w' := Keeps.trans' (H3.alloc _) H2 (Nat.le_refl _)
  clear H1 H2 H5 H6
  go_wp2_with fail
  go_roundw
  case rel => exact ⟨k + 1, by omega, by go_num, H7, HW.out⟩
  case measure => exact jm
 obtain rfl : k = l.length := by omega
 rw [List.take_length] at HO
 clear e3 h3 H0
 go_wp2
 go_ret
 exact ⟨_, rfl, HO.out, H3⟩
end Go.Proofs.YtgdamggkaklhjaaDoor
end
