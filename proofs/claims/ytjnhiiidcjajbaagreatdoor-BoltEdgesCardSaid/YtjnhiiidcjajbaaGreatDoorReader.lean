/-
  image.reader: take and number.
-/
import Derived.Test.YtjnhiiidcjajbaaGreatDoorDecSpec
import Derived.Test.YtjnhiiidcjajbaaGreatDoorFoot
import Derived.Test.YtjnhiiidcjajbaaGreatDoorClone
import Derived.IntWalk
import Derived.Laws.BitsAllLaws
namespace Go.Proofs.YtjnhiiidcjajbaaGreatDoor
open Go.RowKit BH
set_option maxHeartbeats 4000000
set_option maxRecDepth 100000
def RdIs (W0 : World) (v : Value) (o : Bool) : PS → Prop
  | none => o = true
  | some l => o = false ∧ Bytes W0 v l
/-- the reader lies in block g: what is left to read is p; the bytes lie in W0 -/
def RdAt (W0 : World) (g : Nat) (p : PS) (w : World) : Prop :=
  ∃ (a : Option Addr) (n c : Nat) (o : Bool), Blk w g (.cells #[.slice a n c, .bool o] 85) ∧ W0.heap.size ≤ g ∧ RdIs W0 (.slice a n c) o p
theorem RdAt.grown {W0 : World} {g : Nat} {p : PS} {w w' : World} (h : RdAt W0 g p w) {r : Option Nat} (hg : w.grownBy w' r) (hne : r ≠ some g) : RdAt W0 g p w' := by
  obtain ⟨a, n, c, o, hb, h2, h3⟩ := h
  exact ⟨a, n, c, o, hb.grown hg (fun e => hne e.symm), h2, h3⟩

theorem bytes_nil (w : World) : Bytes w (.slice none 0 0) [] := ⟨none, 0, rfl, Nat.le_refl _, by unfold maxLen; omega, fun _ => rfl, fun h => absurd h (Nat.lt_irrefl _)⟩
theorem nth_take {l : List UInt8} {k i : Nat} (h : i < k) (hk : k ≤ l.length) : nth (l.take k) i = nth l i := by
  rw [nth_eq _ _ (by rw [List.length_take]; omega), nth_eq _ _ (by omega)]; simp
theorem nth_drop {l : List UInt8} {k i : Nat} (hi : i < l.length - k) : nth (l.drop k) i = nth l (k + i) := by
  rw [nth_eq _ _ (by rw [List.length_drop]; omega), nth_eq _ _ (by omega)]; simp
theorem bytes_take {W : World} {a : Option Addr} {L c k : Nat} {l : List UInt8} (h : Bytes W (.slice a L c) l) (hk : k ≤ l.length) : Bytes W (.slice a k c) (l.take k) := by
  obtain ⟨a', c', ev, q1, q2, q3, q4⟩ := h
  injection ev with e1 e2 e3
  subst e1 e2 e3
  have e : (l.take k).length = k := by rw [List.length_take]; omega
  refine ⟨a, c, by rw [e], by omega, q2, q3, fun hn => ?_⟩
  obtain ⟨b, off, rfl, hc⟩ := q4 (by omega)
  exact ⟨b, off, rfl, fun i j hi hj => by
    show _ = some (Value.int .u8 ((nth (l.take k) i).toNat : Int))
    rw [nth_take (by omega) hk]; exact hc i j (by omega) hj⟩
theorem bytes_drop {W : World} {p : Addr} {L c k : Nat} {l : List UInt8} (h : Bytes W (.slice (some p) L c) l) (hk : k ≤ l.length) : Bytes W (.slice (some (p.add k)) (l.length - k) (c - k)) (l.drop k) := by
  obtain ⟨a', c', ev, q1, q2, q3, q4⟩ := h
  injection ev with e1 e2 e3
  subst e1 e2 e3
  have e : (l.drop k).length = l.length - k := by rw [List.length_drop]
  refine ⟨_, c - k, by rw [e], by omega, by omega, (fun e => by cases e), fun hn => ?_⟩
  obtain ⟨b, off, hp, hc⟩ := q4 (by omega)
  cases hp
  refine ⟨b, off + k, ?_, fun i j hi hj => ?_⟩
  · unfold Addr.add
    split
    · rename_i hz; subst hz; simp
    · simp
  · show _ = some (Value.int .u8 ((nth (l.drop k) i).toNat : Int))
    rw [nth_drop (by omega)]
    have := hc (k + i) j (by omega) hj
    rw [← this]
    congr 2
    omega
theorem take_any (W0 : World) (g : Nat) (n : Int) (p : PS) (w : World) (hk : Keeps W0 w) (hr : RdAt W0 g p w) (h0 : 0 ≤ n) (h1 : n ≤ 100000) :
    Calls Tryz.prog 37 #[.pointer (some ⟨g, 0, none⟩), .int .i64 n] w fun e w' => ∃ v', e = .returned v' ∧ Bytes w' v' (tk n p).1 ∧ NewAt w.heap.size v' ∧ w.grownBy w' (some g) ∧ RdAt W0 g (tk n p).2 w' := by
  obtain ⟨a, L, c, o, hb, hg, hp⟩ := hr
  have g0 := hb.cell (j := 0) rfl
  have g1 := hb.cell (j := 1) rfl
  have f1 := hb.thawed 1
  have f0 := hb.thawed 0
  have hgl := hb.lt
  have HB := Lib.hid hb
  cases p with
  | none =>
    have hp : o = true := hp
    subst hp
    have hs := grown_setCell w g 1 (.bool true)
    have HS := Lib.hid hs
    have HG := Lib.hid hg
    clear hb hs hk
    go_enter Tryz.func37, Tryz.ntmps37
    go_wp2_with fail
    go_ret
    exact ⟨_, rfl, bytes_nil _, NewAt.nil _ _ _, HS.out, a, L, c, true, HB.out.set 1 _, HG.out, rfl⟩
  | some l =>
    obtain ⟨rfl, hl⟩ := (show o = false ∧ Bytes W0 (.slice a L c) l from hp)
    obtain ⟨a', c', ev, q1, q2, q3, q4⟩ := id hl
    injection ev with e1 e2 e3
    subst e1 e2 e3
    unfold maxLen at q2
    have HL := Lib.hid hl
    have HG := Lib.hid hg
    rcases Int.lt_or_le (l.length : Int) n with hn | hn
    · rw [tk_few hn]
      have hs := grown_setCell w g 1 (.bool true)
      have HS := Lib.hid hs
      clear hb hs hk hp hl q3 q4
      go_enter Tryz.func37, Tryz.ntmps37
      go_wp2_with fail
      go_ret
      exact ⟨_, rfl, bytes_nil _, NewAt.nil _ _ _, HS.out, a, l.length, c, true, HB.out.set 1 _, HG.out, rfl⟩
    · rw [tk_ok hn]
      obtain ⟨k, rfl⟩ : ∃ k : Nat, n = k := ⟨n.toNat, by omega⟩
      rw [Int.toNat_natCast]
      have HK := Lib.hid hk
      have q4' := q3
      clear hb hk hp hl q3 q4
      have hT := bytes_take HL.out (k := k) (by omega)
      cases a with
      | none =>
        obtain rfl : c = 0 := q4' rfl
        obtain rfl : k = 0 := by omega
        obtain rfl : l = [] := List.length_eq_zero_iff.mp (by omega)
        have HT := Lib.hid hT
        clear hT
        go_enter Tryz.func37, Tryz.ntmps37
        go_wp2_with fail
        refine (clone_bytes _ _ _ (HT.out.keep (HK.out.setCell HG.out _)) (by simp)).mono ?_
        rintro e w' ⟨v', rfl, ⟨h1, h2⟩, hk1⟩
        go_wp2_with fail
        go_ret
        refine ⟨_, rfl, h1, ?_, (grown_setCell w g 0 _).trans (hk1.grown _), RdAt.grown ⟨none, _, _, false, HB.out.set 0 _, HG.out, rfl, ?_⟩ (hk1.grown none) (fun e => by cases e)⟩
        · simpa [sz_setCell] using h2
        · exact HL.out
      | some p =>
        have hD := bytes_drop HL.out (k := k) (by omega)
        have HT := Lib.hid hT
        have HD := Lib.hid hD
        clear hT hD
        by_cases hc : c = k
        · subst hc
          obtain rfl : c = l.length := by omega
          go_enter Tryz.func37, Tryz.ntmps37
          go_wp2_with fail
          refine (clone_bytes _ _ _ (HT.out.keep (HK.out.setCell HG.out _)) (by simp; omega)).mono ?_
          rintro e w' ⟨v', rfl, ⟨h1, h2⟩, hk1⟩
          go_wp2_with fail
          go_ret
          refine ⟨_, rfl, h1, ?_, (grown_setCell w g 0 _).trans (hk1.grown _), RdAt.grown ⟨some p, _, _, false, HB.out.set 0 _, HG.out, rfl, ?_⟩ (hk1.grown none) (fun e => by cases e)⟩
          · simpa [sz_setCell] using h2
          · rw [List.drop_length]
            exact ⟨_, _, rfl, Nat.le_refl _, by unfold maxLen; omega, fun _ => rfl, fun h => absurd h (Nat.lt_irrefl _)⟩
        · have hc2 : ¬ (c - k = 0) := by omega
          go_enter Tryz.func37, Tryz.ntmps37
          go_wp2_with fail
          refine (clone_bytes _ _ _ (HT.out.keep (HK.out.setCell HG.out _)) (by simp; omega)).mono ?_
          rintro e w' ⟨v', rfl, ⟨h1, h2⟩, hk1⟩
          go_wp2_with fail
          go_ret
          refine ⟨_, rfl, h1, ?_, (grown_setCell w g 0 _).trans (hk1.grown _), RdAt.grown ⟨_, _, _, false, HB.out.set 0 _, HG.out, rfl, HD.out⟩ (hk1.grown none) (fun e => by cases e)⟩
          simpa [sz_setCell] using h2
theorem or_step (x : Int) (b : Nat) (h0 : 0 ≤ x) (hx : x < 72057594037927936) (hb : b < 256) : bits BinOp.or IntKind.i64 (wrap64 (x * 256)) (b : Int) = wrap64 (x * 256 + b) := by
  obtain ⟨n, rfl⟩ := Int.eq_ofNat_of_zero_le h0
  show IntKind.i64.wrap ((BitVec.ofInt 64 (wrap64 ((n : Int) * 256)) ||| BitVec.ofInt 64 (b : Int)).toNat : Int) = _
  have h1 : BitVec.ofInt 64 (wrap64 ((n : Int) * 256)) = BitVec.ofNat 64 (n * 256) := by
    apply BitVec.eq_of_toNat_eq
    rw [BitVec.toNat_ofInt, BitVec.toNat_ofNat]
    unfold wrap64
    omega
  have h2 : BitVec.ofInt 64 (b : Int) = BitVec.ofNat 64 b := by
    apply BitVec.eq_of_toNat_eq
    rw [BitVec.toNat_ofInt, BitVec.toNat_ofNat]
    omega
  rw [h1, h2, BitVec.toNat_or, BitVec.toNat_ofNat, BitVec.toNat_ofNat, Nat.mod_eq_of_lt (show n * 256 < 2 ^ 64 by omega), Nat.mod_eq_of_lt (show b < 2 ^ 64 by omega)]
  have h3 := Nat.shiftLeft_add_eq_or_of_lt (show b < 2 ^ 8 by omega) n
  rw [Nat.shiftLeft_eq] at h3
  rw [show n * 256 = n * 2 ^ 8 from rfl, ← h3, IntKind.wrap_i64]
  unfold wrap64
  omega
theorem val_take_succ {l : List UInt8} {i : Nat} (h : i < l.length) : val (l.take (i + 1)) = wrap64 (val (l.take i) * 256 + ((nth l i).toNat : Int)) := by
  rw [nth_eq _ _ h, List.take_succ_eq_append_getElem h, val_snoc]
theorem number_rd (W0 : World) (g : Nat) (K : Int) (p : PS) (w : World) (hk : Keeps W0 w) (hr : RdAt W0 g p w) (h0 : 0 ≤ K) (h1 : K ≤ 8) :
    Calls Tryz.prog 38 #[.pointer (some ⟨g, 0, none⟩), .int .i64 K] w fun e w' => e = .returned (.int .i64 (nm K p).1) ∧ w.grownBy w' (some g) ∧ RdAt W0 g (nm K p).2 w' := by
  unfold nm
  have hlen := tk_len K p h0
  have HT := Lib.hid (take_any W0 g K p w hk hr h0 (by omega))
  generalize tk K p = q at HT hlen ⊢
  obtain ⟨l, p'⟩ := q
  simp only [] at HT hlen ⊢
  clear hk hr h0
  go_enter Tryz.func38, Tryz.ntmps38
  go_wp2_with fail
  refine HT.out.mono ?_
  rintro e w1 ⟨v, rfl, hv, hnew, hgr, hrd⟩
  have HR := Lib.hid (show w.grownBy w1 (some g) ∧ RdAt W0 g p' w1 from ⟨hgr, hrd⟩)
  obtain ⟨a, c, rfl, q1, q2, q3, q4⟩ := hv
  clear hnew hgr hrd HT q1 q2 q3
  go_wp2_with fail
  go_loopw [5, 7, 12] (fun s5 s7 s12 wr => ∃ i : Nat, i ≤ l.length ∧ s12 = .int .i64 i ∧ s5 = .int .i64 (val (l.take i)) ∧ wr = w1) (fun _ _ s12 _ => l.length - (intOf s12).toNat)
  case atStart => exact ⟨0, Nat.zero_le _, rfl, rfl, rfl⟩
  case round =>
    obtain ⟨i, hi, rfl, rfl, rfl⟩ := hrel
    by_cases hlt : i < l.length
    · obtain ⟨b, off, rfl, hc⟩ := q4 (by omega)
      have c0 : wr.cell? ⟨b, off + i, none⟩ = some (.int .u8 ((nth l i).toNat : Int)) := by simpa using hc i 0 hlt (by omega)
      have hv := val_bd 7 (by omega) (l.take i) (by rw [List.length_take]; omega)
      have e7 : (256 : Int) ^ 7 = 72057594037927936 := by decide
      rw [e7] at hv
      have HS := Lib.hid (val_take_succ hlt)
      have HO := Lib.hid (or_step (val (l.take i)) (nth l i).toNat hv.1 hv.2 (nth l i).toNat_lt)
      have hb0 : (0 : Int) ≤ ((nth l i).toNat : Int) := by omega
      have hb1 := byte_bd (nth l i)
      clear hc q4 e7 hv
      generalize val (l.take i) = x at *
      generalize nth l i = y at *
      go_wp2_with fail
      go_roundw
      case rel =>
        refine ⟨i + 1, by omega, by go_num, ?_, trivial⟩
        rw [HS.out, ← HO.out]
      case measure => simp [intOf]; omega
    · obtain rfl : i = l.length := by omega
      rw [List.take_length]
      go_wp2_with fail
      go_ret
      exact ⟨rfl, HR.out⟩
end Go.Proofs.YtjnhiiidcjajbaaGreatDoor
