/-
  The bytes of an instruction, as a plain function; the small functions that isa.Encode and the document's BytesOf call.
-/
import Derived.Test.YtpgifkhgefbnfaaDoorIsaSize
import Derived.Test.YtpgifkhgefbnfaaDoorOwn
namespace Go.Proofs.YtpgifkhgefbnfaaDoor
open Go.RowKit BH
set_option maxHeartbeats 1000000
set_option maxRecDepth 100000

/-- a byte as it is laid -/
def cu (x : Int) : List Value := [.int .u8 x]
theorem cu_len (x : Int) : (cu x).length = 1 := rfl
theorem cu_one (x : Int) : ∀ u ∈ cu x, u.oneCell' = true := by intro u hu; simp only [cu, List.mem_singleton] at hu; subst hu; rfl
/-- a slice of bytes, as numbers -/
def Octs (w : World) (v : Value) (l : List Int) : Prop := Arr w v l.length 1 (fun i _ => .int .u8 (nth l i))
theorem own_octs {w : World} {base : Nat} {e : TypeId} {v : Value} {l : List Int} (h : Own w base e 1 cu v l) : Octs w v l :=
  (h.arr cu_len).congr fun i j _ hj => by rw [show j = 0 by omega]; rfl
/-- The call returns a slice and an error's number, of which P holds; all that was there is as it was. -/
def GivesE (P : Value → World → Prop) (er : Int) (w : World) (e : Ending) (w' : World) : Prop := ∃ v, e = .returned (.tuple #[v, .int .i64 er]) ∧ P v w' ∧ Keeps w w'

def lowB (n : Int) : Int := n % 256
def highB (n : Int) : Int := n / 256 % 256
def lastB (N : Int) (Lg : Bool) : List Int := bif Lg then [lowB N, highB N] else [lowB N]
def insBytes (k : Nat) (D A B N : Int) (Lg : Bool) : List Int :=
  (bif Lg then longT k else opT k) ::
  (if k ≤ 4 then []
  else if k ≤ 5 then [D, lowB N, highB N]
  else if k ≤ 6 then [D * 16 + A, lowB N]
  else if k ≤ 13 then [D * 16 + A, B]
  else if k ≤ 14 then [D * 16 + A, lowB N]
  else if k ≤ 15 then [B * 16 + A, lowB N]
  else if k ≤ 16 then [D]
  else if k ≤ 17 then [A]
  else if k ≤ 21 then (A * 16 + B) :: lastB N Lg
  else if k ≤ 22 then lastB N Lg
  else if k ≤ 23 then [lowB N, highB N]
  else [A, lowB N])

theorem fault_zero {d a b n lz : Bool} {r : Nat} {D A B N : Int} {Lg : Bool} (h : fault d a b n lz r D A B N Lg = 0) :
    regsOk D A B ∧ -32768 ≤ N ∧ N ≤ 32767 ∧ (lz = true → Lg = false) := by
  unfold fault at h
  split at h
  · cases h
  · rename_i h1
    split at h
    · cases h
    · rename_i h2
      split at h
      · cases h
      · rename_i h3
        have h2' : regsOk D A B := Decidable.not_not.1 h2
        have h3' : rangeOk r N Lg := Decidable.not_not.1 h3
        refine ⟨h2', ?_⟩
        unfold rangeOk at h3'
        have hb : -32768 ≤ N ∧ N ≤ 32767 := by
          split at h3'
          · exact h3'
          · split at h3' <;> omega
        refine ⟨hb.1, hb.2, fun hl => ?_⟩
        cases Lg with
        | false => rfl
        | true => exact absurd (Or.inr (Or.inr (Or.inr (Or.inr ⟨rfl, hl⟩)))) h1
theorem insFault_zero {k : Nat} {D A B N : Int} {Lg : Bool} (h : insFault k D A B N Lg = 0) :
    1 ≤ k ∧ k ≤ 24 ∧ regsOk D A B ∧ -32768 ≤ N ∧ N ≤ 32767 ∧ ((k < 18 ∨ 22 < k) → Lg = false) := by
  obtain ⟨b1, b2⟩ := insFault_kind h
  refine ⟨by omega, by omega, ?_⟩
  by_cases h1 : k ≤ 4
  · rw [insFault_bare k (by omega) h1] at h; obtain ⟨x, y, z, u⟩ := fault_zero h; exact ⟨x, y, z, fun _ => u rfl⟩
  by_cases h2 : k ≤ 5
  · rw [insFault_wide k (by omega) h2] at h; obtain ⟨x, y, z, u⟩ := fault_zero h; exact ⟨x, y, z, fun _ => u rfl⟩
  by_cases h3 : k ≤ 6
  · rw [insFault_pairA k (by omega) h3] at h; obtain ⟨x, y, z, u⟩ := fault_zero h; exact ⟨x, y, z, fun _ => u rfl⟩
  by_cases h4 : k ≤ 13
  · rw [insFault_three k (by omega) h4] at h; obtain ⟨x, y, z, u⟩ := fault_zero h; exact ⟨x, y, z, fun _ => u rfl⟩
  by_cases h5 : k ≤ 14
  · rw [insFault_pairB k (by omega) h5] at h; obtain ⟨x, y, z, u⟩ := fault_zero h; exact ⟨x, y, z, fun _ => u rfl⟩
  by_cases h6 : k ≤ 15
  · rw [insFault_store k (by omega) h6] at h; obtain ⟨x, y, z, u⟩ := fault_zero h; exact ⟨x, y, z, fun _ => u rfl⟩
  by_cases h7 : k ≤ 16
  · rw [insFault_dest k (by omega) h7] at h; obtain ⟨x, y, z, u⟩ := fault_zero h; exact ⟨x, y, z, fun _ => u rfl⟩
  by_cases h8 : k ≤ 17
  · rw [insFault_source k (by omega) h8] at h; obtain ⟨x, y, z, u⟩ := fault_zero h; exact ⟨x, y, z, fun _ => u rfl⟩
  by_cases h9 : k ≤ 21
  · rw [insFault_branch k (by omega) h9] at h; obtain ⟨x, y, z, u⟩ := fault_zero h; exact ⟨x, y, z, fun h => absurd h (by omega)⟩
  by_cases h10 : k ≤ 22
  · rw [insFault_jump k (by omega) h10] at h; obtain ⟨x, y, z, u⟩ := fault_zero h; exact ⟨x, y, z, fun h => absurd h (by omega)⟩
  by_cases h11 : k ≤ 23
  · rw [insFault_call k (by omega) h11] at h; obtain ⟨x, y, z, u⟩ := fault_zero h; exact ⟨x, y, z, fun _ => u rfl⟩
  · rw [insFault_table k (by omega) (by omega)] at h; obtain ⟨x, y, z, u⟩ := fault_zero h; exact ⟨x, y, z, fun _ => u rfl⟩

theorem or_regs (x y : Int) (h1 : 0 ≤ x) (h2 : x < 8) (h3 : 0 ≤ y) (h4 : y < 8) : bits BinOp.or IntKind.i64 (x * 16) y % 256 = x * 16 + y := by
  obtain ⟨a, rfl⟩ : ∃ a : Nat, x = a := ⟨x.toNat, by omega⟩
  obtain ⟨b, rfl⟩ : ∃ b : Nat, y = b := ⟨y.toNat, by omega⟩
  have : ∀ a : Nat, a < 8 → ∀ b : Nat, b < 8 → bits BinOp.or IntKind.i64 ((a : Int) * 16) (b : Int) % 256 = (a : Int) * 16 + b := by decide +kernel
  exact this a (by omega) b (by omega)
theorem tmod_nonneg {n m : Int} (h : 0 ≤ n) : n.tmod m = n % m := Int.tmod_eq_emod_of_nonneg h
theorem tmod_neg {n m : Int} (h : n < 0) : n.tmod m = -((-n) % m) := by
  have e : n = -(-n) := by omega
  rw [e, Int.neg_tmod, Int.tmod_eq_emod_of_nonneg (by omega)]
  rw [Int.neg_neg]
theorem wrap_256 (n : Int) (h1 : -32768 ≤ n) (h2 : n ≤ 32767) : (wrap64 (n.tmod 256 + 256)).tmod 256 = n % 256 := by
  by_cases h : 0 ≤ n
  · rw [tmod_nonneg h]
    rw [show wrap64 (n % 256 + 256) = n % 256 + 256 by unfold wrap64; omega, tmod_nonneg (by omega)]
    omega
  · rw [tmod_neg (n := n) (by omega)]
    rw [show wrap64 (-(-n % 256) + 256) = -(-n % 256) + 256 by unfold wrap64; omega, tmod_nonneg (by omega)]
    omega
theorem wrap_65536 (n : Int) (h1 : -32768 ≤ n) (h2 : n ≤ 32767) : (wrap64 (n.tmod 65536 + 65536)).tmod 65536 = n % 65536 := by
  by_cases h : 0 ≤ n
  · rw [tmod_nonneg h]
    rw [show wrap64 (n % 65536 + 65536) = n % 65536 + 65536 by unfold wrap64; omega, tmod_nonneg (by omega)]
    omega
  · rw [tmod_neg (n := n) (by omega)]
    rw [show wrap64 (-(-n % 65536) + 65536) = -(-n % 65536) + 65536 by unfold wrap64; omega, tmod_nonneg (by omega)]
    omega
theorem ret_num {k : IntKind} {a b : Int} (h : a = b) : Ending.returned (.int k a) = .returned (.int k b) := by rw [h]
theorem op_bounds (k : Nat) (h : k ≤ 24) : 0 ≤ opT k ∧ opT k < 256 ∧ 0 ≤ longT k ∧ longT k < 256 := by
  have : ∀ k, k < 25 → 0 ≤ opT k ∧ opT k < 256 ∧ 0 ≤ longT k ∧ longT k < 256 := by decide
  exact this k (by omega)
theorem Blk.drew {w : World} {g : Nat} {o : Obj} (h : Blk w g o) : Blk w.drew g o := h
theorem two_blocks (w : World) (o1 o2 : Obj) : ∃ W : World, W = (w.alloc o1).alloc o2 ∧ Keeps w W ∧ Blk W w.heap.size o1 ∧ w.heap.size + 1 < W.heap.size :=
  ⟨_, rfl, ((Keeps.refl w).alloc _).alloc _, (Blk.top _ _).keep ((Keeps.refl _).alloc _), by rw [sz_alloc, sz_alloc]; omega⟩
theorem two_drawn (w : World) (o1 o2 : Obj) : ∃ W : World, W = ((w.alloc o1).alloc o2).drew ∧ Keeps w W ∧ Blk W w.heap.size o1 ∧ Blk W (w.heap.size + 1) o2 ∧ w.heap.size + 1 < W.heap.size :=
  ⟨_, rfl, (((Keeps.refl w).alloc _).alloc _).drew, Blk.drew ((Blk.top _ _).keep ((Keeps.refl _).alloc _)), Blk.drew (Blk.top' _ _ (by rw [sz_alloc])), by rw [sz_drew, sz_alloc, sz_alloc]; omega⟩
/-- three blocks, made: what is known of the world that holds them -/
theorem three_blocks (w : World) (o1 o2 o3 : Obj) : ∃ W : World, W = ((w.alloc o1).alloc o2).alloc o3 ∧ Keeps w W ∧ Blk W (w.heap.size + 1) o2 ∧ Blk W (w.heap.size + 1 + 1) o3 ∧ w.heap.size + 1 + 1 < W.heap.size :=
  ⟨_, rfl, (((Keeps.refl w).alloc _).alloc _).alloc _, (Blk.top' _ _ (by rw [sz_alloc])).keep ((Keeps.refl _).alloc _), Blk.top' _ _ (by rw [sz_alloc, sz_alloc]), by rw [sz_alloc, sz_alloc, sz_alloc]; omega⟩
theorem four_blocks (w : World) (o1 o2 o3 o4 : Obj) : ∃ W : World, W = (((w.alloc o1).alloc o2).alloc o3).alloc o4 ∧ Keeps w W ∧ Blk W (w.heap.size + 1 + 1) o3 ∧ Blk W (w.heap.size + 1 + 1 + 1) o4 ∧ w.heap.size + 1 + 1 + 1 < W.heap.size :=
  ⟨_, rfl, ((((Keeps.refl w).alloc _).alloc _).alloc _).alloc _, (Blk.top' _ _ (by rw [sz_alloc, sz_alloc])).keep ((Keeps.refl _).alloc _), Blk.top' _ _ (by rw [sz_alloc, sz_alloc, sz_alloc]), by rw [sz_alloc, sz_alloc, sz_alloc, sz_alloc]; omega⟩
end Go.Proofs.YtpgifkhgefbnfaaDoor
