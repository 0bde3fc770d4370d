/-
  isa.Size and the document's SizeOf: how many bytes an instruction has.
  The bytes of an instruction, as a plain function; the small functions that isa.Encode and the document's BytesOf call.
  image.Check: the fault of an image.
  What the row's list of package-level variables gives, where isa.sizes stands second in it: the table of sizes.
-/
import Derived.Test.YtpgifkhgefbnfaaDoorImgName
import Derived.Test.YtpgifkhgefbnfaaDoorOwn
import Derived.Test.YtpgifkhgefbnfaaDoorImgFuncs
import Derived.Test.YtpgifkhgefbnfaaDoorNumsCopy
import Derived.Test.YtpgifkhgefbnfaaDoorIsaLaid
section
namespace Go.Proofs.YtpgifkhgefbnfaaDoor
open Go.RowKit BH
set_option maxHeartbeats 1000000
set_option maxRecDepth 100000

/-- the package-level table isa.sizes holds them -/
def Siz (w : World) : Prop := ∀ s, s < 12 → w.cell? ⟨1, s, none⟩ = some (.int .i64 (sizeT s))
theorem Siz.keep {w w' : World} (h : Siz w) (hk : Keeps w w') : Siz w' := fun s hs => hk.cell (h s hs)

def shapeN (k : Nat) : Nat := [0, 1, 1, 1, 1, 2, 3, 4, 4, 4, 4, 4, 4, 4, 3, 5, 6, 7, 8, 8, 8, 8, 9, 10, 11].getD k 0
theorem shapeN_eq (k : Nat) (h : k ≤ 24) : shapeT k = shapeN k ∧ shapeN k < 12 := by
  have : ∀ k, k < 25 → shapeT k = shapeN k ∧ shapeN k < 12 := by decide
  exact this k (by omega)
theorem sizeT_bd (s : Nat) (h : s < 12) : 0 ≤ sizeT s ∧ sizeT s ≤ 4 := by
  have : ∀ s, s < 12 → 0 ≤ sizeT s ∧ sizeT s ≤ 4 := by decide
  exact this s h
/-- how many bytes an instruction of the kind k has -/
def insSize (k : Nat) (Lg : Bool) : Int := sizeT (shapeN k) + if Lg then 1 else 0
theorem insFault_kind {K D A B N : Int} {Lg : Bool} (h : insFault K D A B N Lg = 0) : 1 ≤ K ∧ K ≤ 24 := by
  by_cases hb : K < 1 ∨ 24 < K
  · rw [insFault_bad hb] at h; cases h
  · omega

/-- the document's sizeOf -/
theorem refSize_any (k : Nat) (h1 : 1 ≤ k) (h2 : k ≤ 24) (D A B N : Int) (Lg : Bool) (w : World) :
    Calls Tryd.prog 23 #[insV k D A B N Lg] w fun e w' => e = .returned (.int .i64 (insSize k Lg)) ∧ Keeps w w' := by
  have hk : (k ≤ 4 ∧ sizeT (shapeN k) = 1) ∨ (k = 5 ∧ sizeT (shapeN k) = 4) ∨ ((k = 16 ∨ k = 17 ∨ k = 22) ∧ sizeT (shapeN k) = 2) ∨ ((k ≠ 5 ∧ k ≠ 16 ∧ k ≠ 17 ∧ k ≠ 22 ∧ 4 < k) ∧ sizeT (shapeN k) = 3) := by
    have h24 : k = 1 ∨ k = 2 ∨ k = 3 ∨ k = 4 ∨ k = 5 ∨ k = 6 ∨ k = 7 ∨ k = 8 ∨ k = 9 ∨ k = 10 ∨ k = 11 ∨ k = 12 ∨ k = 13 ∨ k = 14 ∨ k = 15 ∨ k = 16 ∨ k = 17 ∨ k = 18 ∨ k = 19 ∨ k = 20 ∨ k = 21 ∨ k = 22 ∨ k = 23 ∨ k = 24 := by omega
    rcases h24 with rfl | rfl | rfl | rfl | rfl | rfl | rfl | rfl | rfl | rfl | rfl | rfl | rfl | rfl | rfl | rfl | rfl | rfl | rfl | rfl | rfl | rfl | rfl | rfl <;> simp [sizeT, shapeN]
  have HK := Lib.hid hk
  clear hk
  unfold insV
  cases Lg
  all_goals
    rcases HK.out with ⟨g, hz⟩ | ⟨g, hz⟩ | ⟨g, hz⟩ | ⟨g, hz⟩
    all_goals
      have HZ := Lib.hid hz
      clear hz
      go_enter Tryd.func23, Tryd.ntmps23
      go_wp2
      all_goals first
        | (go_ret
           exact ⟨by unfold insSize; rw [HZ.out]; rfl, (Keeps.refl _).alloc _⟩)
        | (exfalso; simp only [beq_iff_eq, beq_eq_false_iff_ne, ne_eq] at *; omega)
end Go.Proofs.YtpgifkhgefbnfaaDoor
end
section
namespace Go.Proofs.YtpgifkhgefbnfaaDoor
open Go.RowKit BH
set_option maxHeartbeats 1000000
set_option maxRecDepth 100000

/-- a byte as it is laid -/
def cu (x : Int) : List Value := [.int .u8 x]
theorem cu_len (x : Int) : (cu x).length = 1 := rfl
theorem cu_one (x : Int) : ∀ u ∈ cu x, u.oneCell' = true := by intro u hu; simp only [cu, List.mem_singleton] at hu; subst hu; rfl
/-- a slice of bytes, as numbers -/
def Octs (w : World) (v : Value) (l : List Int) : Prop := Arr w v l.length 1 (fun i _ => .int .u8 (nth l i))
theorem own_octs {w : World} {base : Nat} {e : TypeId} {v : Value} {l : List Int} (h : Own w base e 1 cu v l) : Octs w v l :=
  (h.arr cu_len).congr fun i j _ hj => by rw [show j = 0 by omega]; rfl
/-- The call returns a slice and an error's number, of which P holds; all that was there is as it was. -/
def GivesE (P : Value → World → Prop) (er : Int) (w : World) (e : Ending) (w' : World) : Prop := ∃ v, e = .returned (.tuple #[v, .int .i64 er]) ∧ P v w' ∧ Keeps w w'

def lowB (n : Int) : Int := n % 256
def highB (n : Int) : Int := n / 256 % 256
def lastB (N : Int) (Lg : Bool) : List Int := bif Lg then [lowB N, highB N] else [lowB N]
def insBytes (k : Nat) (D A B N : Int) (Lg : Bool) : List Int :=
  (bif Lg then longT k else opT k) ::
  (if k ≤ 4 then []
  else if k ≤ 5 then [D, lowB N, highB N]
  else if k ≤ 6 then [D * 16 + A, lowB N]
  else if k ≤ 13 then [D * 16 + A, B]
  else if k ≤ 14 then [D * 16 + A, lowB N]
  else if k ≤ 15 then [B * 16 + A, lowB N]
  else if k ≤ 16 then [D]
  else if k ≤ 17 then [A]
  else if k ≤ 21 then (A * 16 + B) :: lastB N Lg
  else if k ≤ 22 then lastB N Lg
  else if k ≤ 23 then [lowB N, highB N]
  else [A, lowB N])

theorem fault_zero {d a b n lz : Bool} {r : Nat} {D A B N : Int} {Lg : Bool} (h : fault d a b n lz r D A B N Lg = 0) :
    regsOk D A B ∧ -32768 ≤ N ∧ N ≤ 32767 ∧ (lz = true → Lg = false) := by
  unfold fault at h
  split at h
  · cases h
  · rename_i h1
    split at h
    · cases h
    · rename_i h2
      split at h
      · cases h
      · rename_i h3
        have h2' : regsOk D A B := Decidable.not_not.1 h2
        have h3' : rangeOk r N Lg := Decidable.not_not.1 h3
        refine ⟨h2', ?_⟩
        unfold rangeOk at h3'
        have hb : -32768 ≤ N ∧ N ≤ 32767 := by
          split at h3'
          · exact h3'
          · split at h3' <;> omega
        refine ⟨hb.1, hb.2, fun hl => ?_⟩
        cases Lg with
        | false => rfl
        | true => exact absurd (Or.inr (Or.inr (Or.inr (Or.inr ⟨rfl, hl⟩)))) h1
theorem insFault_zero {k : Nat} {D A B N : Int} {Lg : Bool} (h : insFault k D A B N Lg = 0) :
    1 ≤ k ∧ k ≤ 24 ∧ regsOk D A B ∧ -32768 ≤ N ∧ N ≤ 32767 ∧ ((k < 18 ∨ 22 < k) → Lg = false) := by
  obtain ⟨b1, b2⟩ := insFault_kind h
  refine ⟨by omega, by omega, ?_⟩
  by_cases h1 : k ≤ 4
  · rw [insFault_bare k (by omega) h1] at h; obtain ⟨x, y, z, u⟩ := fault_zero h; exact ⟨x, y, z, fun _ => u rfl⟩
  by_cases h2 : k ≤ 5
  · rw [insFault_wide k (by omega) h2] at h; obtain ⟨x, y, z, u⟩ := fault_zero h; exact ⟨x, y, z, fun _ => u rfl⟩
  by_cases h3 : k ≤ 6
  · rw [insFault_pairA k (by omega) h3] at h; obtain ⟨x, y, z, u⟩ := fault_zero h; exact ⟨x, y, z, fun _ => u rfl⟩
  by_cases h4 : k ≤ 13
  · rw [insFault_three k (by omega) h4] at h; obtain ⟨x, y, z, u⟩ := fault_zero h; exact ⟨x, y, z, fun _ => u rfl⟩
  by_cases h5 : k ≤ 14
  · rw [insFault_pairB k (by omega) h5] at h; obtain ⟨x, y, z, u⟩ := fault_zero h; exact ⟨x, y, z, fun _ => u rfl⟩
  by_cases h6 : k ≤ 15
  · rw [insFault_store k (by omega) h6] at h; obtain ⟨x, y, z, u⟩ := fault_zero h; exact ⟨x, y, z, fun _ => u rfl⟩
  by_cases h7 : k ≤ 16
  · rw [insFault_dest k (by omega) h7] at h; obtain ⟨x, y, z, u⟩ := fault_zero h; exact ⟨x, y, z, fun _ => u rfl⟩
  by_cases h8 : k ≤ 17
  · rw [insFault_source k (by omega) h8] at h; obtain ⟨x, y, z, u⟩ := fault_zero h; exact ⟨x, y, z, fun _ => u rfl⟩
  by_cases h9 : k ≤ 21
  · rw [insFault_branch k (by omega) h9] at h; obtain ⟨x, y, z, u⟩ := fault_zero h; exact ⟨x, y, z, fun h => absurd h (by omega)⟩
  by_cases h10 : k ≤ 22
  · rw [insFault_jump k (by omega) h10] at h; obtain ⟨x, y, z, u⟩ := fault_zero h; exact ⟨x, y, z, fun h => absurd h (by omega)⟩
  by_cases h11 : k ≤ 23
  · rw [insFault_call k (by omega) h11] at h; obtain ⟨x, y, z, u⟩ := fault_zero h; exact ⟨x, y, z, fun _ => u rfl⟩
  · rw [insFault_table k (by omega) (by omega)] at h; obtain ⟨x, y, z, u⟩ := fault_zero h; exact ⟨x, y, z, fun _ => u rfl⟩

theorem or_regs (x y : Int) (h1 : 0 ≤ x) (h2 : x < 8) (h3 : 0 ≤ y) (h4 : y < 8) : bits BinOp.or IntKind.i64 (x * 16) y % 256 = x * 16 + y := by
  obtain ⟨a, rfl⟩ : ∃ a : Nat, x = a := ⟨x.toNat, by omega⟩
  obtain ⟨b, rfl⟩ : ∃ b : Nat, y = b := ⟨y.toNat, by omega⟩
  have : ∀ a : Nat, a < 8 → ∀ b : Nat, b < 8 → bits BinOp.or IntKind.i64 ((a : Int) * 16) (b : Int) % 256 = (a : Int) * 16 + b := by decide +kernel
  exact this a (by omega) b (by omega)
theorem tmod_nonneg {n m : Int} (h : 0 ≤ n) : n.tmod m = n % m := Int.tmod_eq_emod_of_nonneg h
theorem tmod_neg {n m : Int} (h : n < 0) : n.tmod m = -((-n) % m) := by
  have e : n = -(-n) := by omega
  rw [e, Int.neg_tmod, Int.tmod_eq_emod_of_nonneg (by omega)]
  rw [Int.neg_neg]
theorem wrap_256 (n : Int) (h1 : -32768 ≤ n) (h2 : n ≤ 32767) : (wrap64 (n.tmod 256 + 256)).tmod 256 = n % 256 := by
  by_cases h : 0 ≤ n
  · rw [tmod_nonneg h]
    rw [show wrap64 (n % 256 + 256) = n % 256 + 256 by unfold wrap64; omega, tmod_nonneg (by omega)]
    omega
  · rw [tmod_neg (n := n) (by omega)]
    rw [show wrap64 (-(-n % 256) + 256) = -(-n % 256) + 256 by unfold wrap64; omega, tmod_nonneg (by omega)]
    omega
theorem wrap_65536 (n : Int) (h1 : -32768 ≤ n) (h2 : n ≤ 32767) : (wrap64 (n.tmod 65536 + 65536)).tmod 65536 = n % 65536 := by
  by_cases h : 0 ≤ n
  · rw [tmod_nonneg h]
    rw [show wrap64 (n % 65536 + 65536) = n % 65536 + 65536 by unfold wrap64; omega, tmod_nonneg (by omega)]
    omega
  · rw [tmod_neg (n := n) (by omega)]
    rw [show wrap64 (-(-n % 65536) + 65536) = -(-n % 65536) + 65536 by unfold wrap64; omega, tmod_nonneg (by omega)]
    omega
theorem ret_num {k : IntKind} {a b : Int} (h : a = b) : Ending.returned (.int k a) = .returned (.int k b) := by rw [h]
theorem op_bounds (k : Nat) (h : k ≤ 24) : 0 ≤ opT k ∧ opT k < 256 ∧ 0 ≤ longT k ∧ longT k < 256 := by
  have : ∀ k, k < 25 → 0 ≤ opT k ∧ opT k < 256 ∧ 0 ≤ longT k ∧ longT k < 256 := by decide
  exact this k (by omega)
theorem Blk.drew {w : World} {g : Nat} {o : Obj} (h : Blk w g o) : Blk w.drew g o := h
theorem two_blocks (w : World) (o1 o2 : Obj) : ∃ W : World, W = (w.alloc o1).alloc o2 ∧ Keeps w W ∧ Blk W w.heap.size o1 ∧ w.heap.size + 1 < W.heap.size :=
  ⟨_, rfl, ((Keeps.refl w).alloc _).alloc _, (Blk.top _ _).keep ((Keeps.refl _).alloc _), by rw [sz_alloc, sz_alloc]; omega⟩
theorem two_drawn (w : World) (o1 o2 : Obj) : ∃ W : World, W = ((w.alloc o1).alloc o2).drew ∧ Keeps w W ∧ Blk W w.heap.size o1 ∧ Blk W (w.heap.size + 1) o2 ∧ w.heap.size + 1 < W.heap.size :=
  ⟨_, rfl, (((Keeps.refl w).alloc _).alloc _).drew, Blk.drew ((Blk.top _ _).keep ((Keeps.refl _).alloc _)), Blk.drew (Blk.top' _ _ (by rw [sz_alloc])), by rw [sz_drew, sz_alloc, sz_alloc]; omega⟩
/-- three blocks, made: what is known of the world that holds them -/
theorem three_blocks (w : World) (o1 o2 o3 : Obj) : ∃ W : World, W = ((w.alloc o1).alloc o2).alloc o3 ∧ Keeps w W ∧ Blk W (w.heap.size + 1) o2 ∧ Blk W (w.heap.size + 1 + 1) o3 ∧ w.heap.size + 1 + 1 < W.heap.size :=
  ⟨_, rfl, (((Keeps.refl w).alloc _).alloc _).alloc _, (Blk.top' _ _ (by rw [sz_alloc])).keep ((Keeps.refl _).alloc _), Blk.top' _ _ (by rw [sz_alloc, sz_alloc]), by rw [sz_alloc, sz_alloc, sz_alloc]; omega⟩
theorem four_blocks (w : World) (o1 o2 o3 o4 : Obj) : ∃ W : World, W = (((w.alloc o1).alloc o2).alloc o3).alloc o4 ∧ Keeps w W ∧ Blk W (w.heap.size + 1 + 1) o3 ∧ Blk W (w.heap.size + 1 + 1 + 1) o4 ∧ w.heap.size + 1 + 1 + 1 < W.heap.size :=
  ⟨_, rfl, ((((Keeps.refl w).alloc _).alloc _).alloc _).alloc _, (Blk.top' _ _ (by rw [sz_alloc, sz_alloc])).keep ((Keeps.refl _).alloc _), Blk.top' _ _ (by rw [sz_alloc, sz_alloc, sz_alloc]), by rw [sz_alloc, sz_alloc, sz_alloc, sz_alloc]; omega⟩
end Go.Proofs.YtpgifkhgefbnfaaDoor
end
section
namespace Go.Proofs.YtpgifkhgefbnfaaDoor
open Go.RowKit BH
set_option maxHeartbeats 1000000
set_option maxRecDepth 100000

theorem outside_any (n : Int) (b len cap : Nat) (ao : Option Addr) (w : World) (hb : w.cell? ⟨b, 0, none⟩ = some (.slice ao len cap)) :
    Calls Tryd.prog 53 #[.int .i64 n, .pointer (some ⟨b, 0, none⟩)] w fun e w' => e = .returned (.bool (decide (n < 0 ∨ (len : Int) ≤ n))) ∧ w = w' := by
  go_enter Tryd.func53, Tryd.ntmps53
  go_wp2
  all_goals
    go_ret
    refine ⟨ret_bool ?_, rfl⟩
    first
      | (rw [Bool.eq_iff_iff]; done)
      | (rw [Bool.eq_iff_iff]; simp; done)
      | (rw [Bool.eq_iff_iff]; simp; omega)
theorem dataOut_any (n : Int) (w : World) :
    Calls Tryd.prog 54 #[.int .i64 n] w fun e w' => e = .returned (.bool (decide (n < -1099511627776 ∨ 1099511627776 < n))) ∧ w = w' := by
  go_enter Tryd.func54, Tryd.ntmps54
  go_wp2
  all_goals
    go_ret
    refine ⟨ret_bool ?_, rfl⟩
    first
      | (rw [Bool.eq_iff_iff]; done)
      | (rw [Bool.eq_iff_iff]; simp; done)
      | (rw [Bool.eq_iff_iff]; simp; omega)

theorem imgFault_text {m : Img} (h : 8000 < m.Text.length) : imgFault m = 1 := by unfold imgFault; rw [if_pos h]
theorem imgFault_funcs {m : Img} (h : ¬ 8000 < m.Text.length) (h1 : funcsFault m ≠ 0) : imgFault m = funcsFault m := by unfold imgFault; rw [if_neg h, if_pos h1]
theorem imgFault_entry {m : Img} (h : ¬ 8000 < m.Text.length) (h1 : funcsFault m = 0) : imgFault m = entryFault m := by unfold imgFault; rw [if_neg h, if_neg (by simpa using h1)]

theorem imgCheck_any (v : Value) (m : Img) (w : World) (hv : ImgAt w v m) :
    Calls Tryd.prog 27 #[v] w fun e w' => e = .returned (.int .i64 (imgFault m)) ∧ Keeps w w' := by
  have hv' := hv
  obtain ⟨v0, v1, v2, v3, v4, rfl, ⟨ao0, c0, rfl, t1, t2, -, -⟩, ⟨ao1, c1, rfl, f1, f2, -, -⟩, ⟨tv, ⟨ao2, c2, rfl, g1, g2, -, g3⟩, rv⟩, hD, -⟩ := hv
  obtain ⟨ao3, c3, e3, d1, d2, -⟩ := id hD
  subst e3
  unfold maxLen at t2 f2 g2 d2
  obtain ⟨W1, hW1, hkW, hsW, i0, i1, i2, i3, i4, i5⟩ := box6 w 35 (.slice ao0 m.Text.length c0) (.slice ao1 m.Funcs.length c1) (.slice ao2 m.Tables.length c2) (.slice ao3 m.Data.length c3) v4 (.int .i64 m.Entry)
  have HW := Lib.hid hW1
  clear hW1
  by_cases hbig : 8000 < m.Text.length
  · have HF := Lib.hid (imgFault_text hbig)
    clear g3 rv i0 i1 i2 i3 i4 i5
    go_enter Tryd.func27, Tryd.ntmps27
    go_wp2
    go_ret
    exact ⟨by rw [HF.out]; rfl, (Keeps.refl _).alloc _⟩
  · have hbl : m.Text.length ≤ 8000 := by omega
    have HV := hv'.keep hkW
    have HC := Lib.hid (funcs_any _ m W1 HV)
    by_cases hF : funcsFault m = 0
    · have HF := Lib.hid (imgFault_entry hbig hF)
      rw [hF] at HC
      have eg1 : ∀ args w, (callFunc 53 args).run Tryd.prog w = .ok (.enter 53 args) w := enters_of Tryd.func53 (by kernel_rfl) rfl
      have eg2 : ∀ args w, (callFunc 54 args).run Tryd.prog w = .ok (.enter 54 args) w := enters_of Tryd.func54 (by kernel_rfl) rfl
      have EG1 := Lib.hid eg1
      have EG2 := Lib.hid eg2
      clear eg1 eg2 hF hbig
      go_enter Tryd.func27, Tryd.ntmps27
      go_wp2_with fail
      rw [← HW.out]
      refine HC.out.mono ?_
      rintro e W2 ⟨rfl, hk2⟩
      have j0 := hk2.cell i0
      have j1 := hk2.cell i1
      have j2 := hk2.cell i2
      have j3 := hk2.cell i3
      have j4 := hk2.cell i4
      have j5 := hk2.cell i5
      have hk2w := hkW.trans hk2
      clear i0 i1 i2 i3 i4 i5
      by_cases hE : m.Entry < 0 ∨ (m.Funcs.length : Int) ≤ m.Entry
      · have HR := Lib.hid (HF.out.trans (show entryFault m = 6 by unfold entryFault; rw [if_pos hE]))
        clear g3 rv
        go_wp2
        all_goals first
          | (exfalso; omega)
          | (go_ret
             exact ⟨by rw [HR.out]; rfl, hk2w⟩)
      · by_cases hN : 20 < m.Tables.length ∨ 64 < m.Data.length
        · have HR := Lib.hid (HF.out.trans (show entryFault m = 1 by unfold entryFault; rw [if_neg hE, if_pos hN]))
          obtain ⟨hE1, hE2⟩ : 0 ≤ m.Entry ∧ m.Entry < (m.Funcs.length : Int) := by omega
          have b1 : decide (m.Entry < 0) = false := by simpa using hE1
          clear g3 rv hE
          go_wp2
          all_goals first
            | (exfalso; omega)
            | (go_ret
               exact ⟨by rw [HR.out]; rfl, hk2w⟩)
        · have HR := Lib.hid (HF.out.trans (show entryFault m = tabsFault m by unfold entryFault; rw [if_neg hE, if_neg hN]))
          obtain ⟨hE1, hE2⟩ : 0 ≤ m.Entry ∧ m.Entry < (m.Funcs.length : Int) := by omega
          obtain ⟨hN1, hN2⟩ : m.Tables.length ≤ 20 ∧ m.Data.length ≤ 64 := by omega
          have b1 : decide (m.Entry < 0) = false := by simpa using hE1
          have b2 : decide (20 < (m.Tables.length : Int)) = false := by simp; omega
          have b3 : decide (20 < m.Tables.length) = false := by simp; omega
          clear hE hN
          go_wp2
          go_loopw [5, 39] (fun _ i wr => ∃ k : Nat, k ≤ m.Tables.length ∧ i = .int .i64 k ∧ Keeps W2 wr ∧ Hid (scan (tabBad m) (dataFault m) (m.Tables.length - k) k = tabsFault m)) (fun _ i _ => m.Tables.length - (intOf i).toNat)
          case atStart => exact ⟨0, Nat.zero_le _, rfl, Keeps.refl _, (show scan _ _ _ _ = tabsFault m from rfl)⟩
          case round =>
            obtain ⟨k, hk, rfl, hkeep, hscan⟩ := hrel
            have l0 := hkeep.cell j0
            have l1 := hkeep.cell j1
            have l2 := hkeep.cell j2
            have l3 := hkeep.cell j3
            have l4 := hkeep.cell j4
            have l5 := hkeep.cell j5
            have hkk := hk2w.trans hkeep
            by_cases hlt : k < m.Tables.length
            · obtain ⟨b, off, rfl, hc⟩ := g3 (by omega)
              have ct : wr.cell? ⟨b, off + k, none⟩ = some (tv k) := hkk.cell (by simpa using hc k 0 hlt (by omega))
              have hT := (rv k hlt).keep hkk
              obtain ⟨ao5, c5, e5, u1, u2, -⟩ := id hT
              rw [e5] at ct hT
              unfold maxLen at u2
              have hp : PredIn Tryd.prog 53 #[.pointer (some ⟨w.heap.size, 0, none⟩)] (nth m.Tables k).length (fun i => .int .i64 (nth (nth m.Tables k) i)) (outside m (nth m.Tables k)) wr :=
                fun W' i hi hk' => (outside_any _ _ _ _ _ W' (hk'.cell l0)).mono fun e w' ⟨h1, h2⟩ => ⟨h1, h2 ▸ Keeps.refl _⟩
              have HCF := Lib.hid (containsFunc_int _ _ _ _ _ _ wr hT EG1.out hp)
              clear hc g3 rv e5 hp hT
              rcases tabBad_cases m k with ⟨h1, hv⟩ | ⟨h1, ⟨h2, hv⟩ | ⟨h2, hv⟩⟩
              · have HB := Lib.hid (HR.out.trans ((scan_stop hlt (by rw [hv]; decide) hscan.out).trans hv))
                clear hscan hv
                go_wp2
                go_ret
                exact ⟨by rw [HB.out]; rfl, hkk⟩
              · have HB := Lib.hid (HR.out.trans ((scan_stop hlt (by rw [hv]; decide) hscan.out).trans hv))
                rw [h2] at HCF
                clear hscan hv h2
                go_wp2_with fail
                refine HCF.out.mono ?_
                rintro e w3 ⟨rfl, hk3⟩
                go_wp2
                go_ret
                exact ⟨by rw [HB.out]; rfl, hkk.trans hk3⟩
              · have HB := Lib.hid (scan_step hlt hv hscan.out)
                rw [h2] at HCF
                clear hscan hv h2
                go_wp2_with fail
                refine HCF.out.mono ?_
                rintro e w3 ⟨rfl, hk3⟩
                go_wp2
                go_roundw
                case rel => exact ⟨k + 1, by omega, by go_num, hkeep.trans hk3, HB.out⟩
                case measure => simp [intOf]; omega
            · have hke : k = m.Tables.length := by omega
              have HE := Lib.hid (HR.out.trans (scan_end hke hscan.out))
              have hp : PredIn Tryd.prog 54 #[] m.Data.length (fun i => .int .i64 (nth m.Data i)) (dataOut m.Data) wr :=
                fun W' i hi hk' => (dataOut_any _ W').mono fun e w' ⟨h1, h2⟩ => ⟨h1, h2 ▸ Keeps.refl _⟩
              have HCF := Lib.hid (containsFunc_int _ _ _ _ _ _ wr (Arr.keep hD hkk) EG2.out hp)
              have HL := Lib.hid (fun W' (hk' : Keeps wr W') => lines_any _ m W' (hv'.keep (hkk.trans hk')))
              clear hscan g3 rv hp hke
              cases h2 : anyN (dataOut m.Data) m.Data.length with
              | true =>
                have HQ := Lib.hid (HE.out.trans (show dataFault m = 2 by unfold dataFault; rw [if_pos h2]))
                rw [h2] at HCF
                clear h2
                go_wp2_with fail
                refine HCF.out.mono ?_
                rintro e w3 ⟨rfl, hk3⟩
                go_wp2
                go_ret
                exact ⟨by rw [HQ.out]; rfl, hkk.trans hk3⟩
              | false =>
                have HQ := Lib.hid (HE.out.trans (show dataFault m = linesFault m by unfold dataFault; rw [if_neg (by rw [h2]; simp)]))
                rw [h2] at HCF
                clear h2
                go_wp2_with fail
                refine HCF.out.mono ?_
                rintro e w3 ⟨rfl, hk3⟩
                have n0 := hk3.cell l0
                have n1 := hk3.cell l1
                have n2 := hk3.cell l2
                have n3 := hk3.cell l3
                have n4 := hk3.cell l4
                have n5 := hk3.cell l5
                go_wp2_with fail
                refine (HL.out _ hk3).mono ?_
                rintro e w4 ⟨rfl, hk4⟩
                go_wp2
                go_ret
                exact ⟨by rw [HQ.out]; rfl, (hkk.trans hk3).trans hk4⟩
    · have HF := Lib.hid (imgFault_funcs hbig hF)
      have hF1 : (funcsFault m == 0) = false := by simpa using hF
      have hF2 : (funcsFault m != 0) = true := by simpa using hF
      clear g3 rv hF hbig
      go_enter Tryd.func27, Tryd.ntmps27
      go_wp2_with fail
      rw [← HW.out]
      refine HC.out.mono ?_
      rintro e W2 ⟨rfl, hk2⟩
      go_wp2
      go_ret
      exact ⟨by rw [HF.out]; rfl, hkW.trans hk2⟩
end Go.Proofs.YtpgifkhgefbnfaaDoor
end
section
namespace Go.Proofs.YtpgifkhgefbnfaaDoor
open Go.RowKit BH Go.ChangeShapes Go.WideShapes Go.Deep
set_option maxRecDepth 100000

theorem laid_second {P : Program} {W : World} {n1 name : String} {d1 d : DataW Unit} {rest : List (String × DataW Unit)} {g : Nat} {t : TypeId}
    (hg : P.globalNamed name = some g) (hty : (P.globals[g]?).map (·.type) = some t) (h : laidMet P ((n1, d1) :: (name, d) :: rest) W) :
    ∃ cs fuel q, W.var? P name = some cs ∧ DataW.trod (fun _ => ()) P W 0 (fun _ => true) false fuel t cs.toList = some (d, q) := by
  obtain ⟨ps, ⟨g0, t0, cs0, fuel0, p0, q0, -, -, -, -, hrest, -⟩, _⟩ := h
  obtain ⟨g', t', cs, fuel, p, q, hg', ht', hvar, hd, _, _⟩ := hrest
  obtain rfl := Option.some.inj (hg.symm.trans hg')
  obtain rfl := Option.some.inj (hty.symm.trans ht')
  exact ⟨cs, fuel, _, hvar, hd⟩

theorem sizes_cells {H : Type} {enc : TypeId × Value → H} {w : World} {base : Nat} {sp : Nat → Bool} {hd : Bool} {fuel : Nat} {cs : List Value} {ds : List (DataW H)} {p : List MemPlace}
    (h : DataW.trod enc Tryd.prog w base sp hd fuel 58 cs = some (.agg ds, p)) (i : Nat) (hi : i < 12) (a : Int) (hds : ds[i]? = some (.lit (.int .i64 a))) :
    cs[i]? = some (.int .i64 a) := by
  obtain ⟨xs, m, -, hx, hl, hn, hel⟩ := DataW.trod_array Tryd.underlying58 h
  simp only [Prod.mk.injEq, DataW.agg.injEq] at hx
  obtain ⟨rfl, -⟩ := hx
  have he := hel i hi
  rw [List.getElem?_map] at hds
  obtain ⟨y, hy, hyd⟩ := Option.map_eq_some_iff.1 hds
  rw [hy, cells_i, Nat.mul_one] at he
  obtain ⟨z0, q0, r0, -⟩ := DataW.trod_int Tryd.underlying3 he
  rw [r0] at hyd
  simp only [DataW.lit.injEq, Lit.int.injEq, true_and] at hyd
  subst hyd
  have h0 := congrArg (·[0]?) q0
  simp only [List.getElem?_cons_zero, List.getElem?_take, Nat.lt_one_iff, if_true, List.getElem?_drop, Nat.add_zero] at h0
  exact h0

theorem siz_of_laid {W : World} {x : String × DataW Unit} {rest : List (String × DataW Unit)} (h : laidMet Tryd.prog (x :: ("bolthole/isa.sizes", Rows.laid_bolthole_isa_sizes) :: rest) W) : Siz W := by
  obtain ⟨cs, fuel, q, hvar, hd⟩ := laid_second gSizes gSizesType h
  intro s hs
  have hc : cs.toList[s]? = some (.int .i64 (sizeT s)) := by
    refine sizes_cells hd s hs _ ?_
    match s, hs with
    | 0, _ => rfl
    | 1, _ => rfl
    | 2, _ => rfl
    | 3, _ => rfl
    | 4, _ => rfl
    | 5, _ => rfl
    | 6, _ => rfl
    | 7, _ => rfl
    | 8, _ => rfl
    | 9, _ => rfl
    | 10, _ => rfl
    | 11, _ => rfl
    | n + 12, hs => exact absurd hs (by omega)
  rw [World.var?_cell gSizes hvar s]
  simpa using hc
end Go.Proofs.YtpgifkhgefbnfaaDoor
end
