/-
  The document's countIn: a number in decimal digits.
-/
import Derived.Test.YtjnhiiidcjajbaaGreatDoorTalNum
import Derived.Test.YtjnhiiidcjajbaaGreatDoorImgSpec
import Derived.Test.YtjnhiiidcjajbaaGreatDoorProg
import Derived.Laws.IdiomStrings
import Derived.Deep.CutBlock
import Derived.Deep.QuietTactic
import Derived.BigQuiet
import Derived.OwnWalk
import Derived.Lib.Hide
namespace Go.Proofs.YtjnhiiidcjajbaaGreatDoor
open Go.RowKit BH Go.Lib
set_option maxHeartbeats 10000000
set_option maxRecDepth 100000
theorem nth_in' {α : Type} [Inhabited α] {s : List α} {j : Nat} (h : j < s.length) : nth s j ∈ s := by rw [nth_eq _ _ h]; exact List.getElem_mem h
theorem valD_lt : ∀ (l : List UInt8) (acc : Nat), l.all digB = true → valD acc l < (acc + 1) * 10 ^ l.length
  | [], acc, _ => by
    have e : (acc + 1) * 10 ^ ([] : List UInt8).length = acc + 1 := by rw [List.length_nil, Nat.pow_zero, Nat.mul_one]
    rw [e]
    exact Nat.lt_succ_self _
  | c :: r, acc, h => by
    rw [List.all_cons] at h
    obtain ⟨h1, h2⟩ := (Bool.and_eq_true _ _).mp h
    have hc : 48 ≤ c.toNat ∧ c.toNat ≤ 57 := by simpa [digB] using h1
    have ih := valD_lt r (acc * 10 + (c.toNat - 48)) h2
    have e : valD acc (c :: r) = valD (acc * 10 + (c.toNat - 48)) r := rfl
    rw [e]
    have h3 : (acc * 10 + (c.toNat - 48) + 1) * 10 ^ r.length ≤ ((acc + 1) * 10) * 10 ^ r.length := Nat.mul_le_mul_right _ (by omega)
    rw [List.length_cons, Nat.pow_succ, Nat.mul_comm (10 ^ r.length) 10, ← Nat.mul_assoc]
    exact Nat.lt_of_lt_of_le ih h3
theorem valD_small {l : List UInt8} (h : l.all digB = true) (hl : l.length ≤ 10) : valD 0 l < 10000000000 := by
  have h1 := valD_lt l 0 h
  have h2 : 10 ^ l.length ≤ 10 ^ 10 := Nat.pow_le_pow_right (by decide) hl
  omega
theorem all_take_succ {l : List UInt8} {k : Nat} (hk : k < l.length) : (l.take (k + 1)).all digB = ((l.take k).all digB && digB (nth l k)) := by
  rw [take_succ_nth _ _ hk, List.all_append]
  simp
theorem all_no {l : List UInt8} {k : Nat} (hk : k < l.length) (h : digB (nth l k) = false) : l.all digB = false := by
  rw [List.all_eq_false]
  exact ⟨nth l k, nth_in' hk, by rw [h]; exact Bool.false_ne_true⟩
theorem size_list (s : ByteArray) : s.data.toList.length = s.size := by rw [Array.length_toList]; rfl
theorem byte_at (s : ByteArray) (k : Nat) (h : k < s.size) : s[k] = nth s.data.toList k := by
  rw [nth_eq _ _ (by rw [size_list]; exact h)]
  rfl
theorem ret_int {a b : Int} (h : a = b) : Ending.returned (.int .i64 a) = .returned (.int .i64 b) := by rw [h]
theorem countIn_any (s : ByteArray) (w : World) : Calls Tryz.prog 14 #[.string s] w fun e w' => e = .returned (.int .i64 (countR s.data.toList)) ∧ w = w' := by
  have hlen := size_list s
  by_cases h0 : s.size = 0
  · have hR : countR s.data.toList = -1 := by unfold countR; rw [if_pos (Or.inl (by omega))]
    have HR := Lib.hid hR
    clear hR hlen
    have h0z : ((s.size : Int) == 0) = true := by simpa using h0
    go_enter Tryz.func14, Tryz.ntmps14
    go_wp2
    all_goals first
      | (go_ret
         exact ⟨ret_int HR.out.symm, rfl⟩)
      | (exfalso; simp at *; omega)
  · by_cases h1 : 10 < s.size
    · have hR : countR s.data.toList = -1 := by unfold countR; rw [if_pos (Or.inr (Or.inl (by omega)))]
      have HR := Lib.hid hR
      clear hR hlen
      have h0z : ((s.size : Int) == 0) = false := by simpa using h0
      have h1z : decide (10 < (s.size : Int)) = true := by simp; omega
      go_enter Tryz.func14, Tryz.ntmps14
      go_wp2
      all_goals first
        | (go_ret
           exact ⟨ret_int HR.out.symm, rfl⟩)
        | (exfalso; simp at *; omega)
    · have h0z : ((s.size : Int) == 0) = false := by simpa using h0
      have h1z : decide (10 < (s.size : Int)) = false := by simp; omega
      have hp : 0 < s.size := by omega
      have hb0 := byte_at s 0 hp
      by_cases hz : s[0].toNat = 48 ∧ s ≠ ⟨#[48]⟩
      · have hR : countR s.data.toList = -1 := by
          unfold countR
          refine if_pos (Or.inr (Or.inr (Or.inl ⟨?_, fun e => hz.2 ?_⟩)))
          · apply UInt8.toNat.inj
            rw [← hb0, hz.1]
            rfl
          · obtain ⟨⟨l⟩⟩ := s
            simp at e
            rw [e]
        have HR := Lib.hid hR
        obtain ⟨hz1, hz2⟩ := hz
        have z1 : ((s[0].toNat : Int) == 48) = true := by simp; omega
        have z2 : (s.toList == [48]) = false := by
          have q : s.toList ≠ [48] := fun e => hz2 (by rw [ByteArray.toList_eq] at e; obtain ⟨⟨l⟩⟩ := s; simp at e; rw [e])
          simpa using q
        clear hR hlen hb0
        go_enter Tryz.func14, Tryz.ntmps14
        go_wp2
        all_goals first
          | (go_ret
             exact ⟨ret_int HR.out.symm, rfl⟩)
          | (exfalso; simp at *; omega)
      · have hzz : ¬ (nth s.data.toList 0 = 48 ∧ s.data.toList ≠ [48]) := fun q => hz ⟨by rw [hb0, q.1]; rfl, fun e => q.2 (by rw [e])⟩
        have HZ := Lib.hid hzz
        have HN0 := Lib.hid hz
        have HB0 := Lib.hid hb0
        have hsz : s.size ≤ 10 := by omega
        clear hzz hb0
        obtain ⟨L, hL⟩ : ∃ L, L = s.data.toList := ⟨_, rfl⟩
        rw [← hL] at hlen HZ
        have HBY : Hid (∀ k (h : k < s.size), s[k] = nth L k) := Lib.hid fun k h => by rw [hL]; exact byte_at s k h
        rw [← hL]
        clear hL
        have hpz : (0 : Int) < (s.size : Int) := by omega
        have HLEN := Lib.hid hlen
        clear hlen
        have hcs : ((s[0].toNat : Int) == 48) = false ∨ (((s[0].toNat : Int) == 48) = true ∧ (s.toList == [48]) = true) := by
          by_cases ha : s[0].toNat = 48
          · refine Or.inr ⟨by simp; omega, ?_⟩
            by_cases q : s = ⟨#[48]⟩
            · rw [q, ByteArray.toList_eq]; rfl
            · exact absurd ⟨ha, q⟩ HN0.out
          · exact Or.inl (by simp; omega)
        clear hz
        rcases hcs with za | ⟨za, zb⟩
        all_goals
          go_enter Tryz.func14, Tryz.ntmps14
          go_upto_block 0 with fail
          go_wp2_with fail
          go_loopw [3, 4] (fun s3 s4 wr => ∃ k : Nat, k ≤ s.size ∧ s3 = .int .i64 (valD 0 (L.take k) : Nat) ∧ s4 = .int .i64 k ∧ Hid ((L.take k).all digB = true) ∧ w = wr) (fun _ s4 _ => s.size - (intOf s4).toNat)
          case atStart => exact ⟨0, Nat.zero_le _, rfl, rfl, rfl, rfl⟩
          case round =>
            obtain ⟨k, hk, rfl, rfl, HA, rfl⟩ := hrel
            have hln := HLEN.out
            obtain ⟨V, hV⟩ : ∃ V, V = valD 0 (L.take k) := ⟨_, rfl⟩
            have hVs : V < 10000000000 := by rw [hV]; exact valD_small HA.out (by rw [List.length_take]; omega)
            rw [← hV]
            by_cases hlt : k < s.size
            · have hltz : (k : Int) < (s.size : Int) := by omega
              have hby := HBY.out k hlt
              obtain ⟨b, hb⟩ : ∃ b : UInt8, b = s[k] := ⟨_, rfl⟩
              rw [← hb] at hby
              have hbn : b.toNat < 256 := b.toNat_lt
              by_cases hd : 48 ≤ b.toNat ∧ b.toNat ≤ 57
              · have hall : (L.take (k + 1)).all digB = true := by
                  rw [all_take_succ (by omega), HA.out, ← hby]
                  simpa [digB] using hd
                have hval : valD 0 (L.take (k + 1)) = V * 10 + (b.toNat - 48) := by rw [take_succ_nth _ _ (by omega), valD_snoc, ← hV, ← hby]
                obtain ⟨d, hdd⟩ : ∃ d : Nat, b.toNat = d + 48 := ⟨b.toNat - 48, by omega⟩
                rw [hdd] at hval
                have hd9 : d ≤ 9 := by omega
                have HALL := Lib.hid hall
                have HVAL := Lib.hid hval
                have wk : ((s[k].toNat : Nat) : Int) = (d : Int) + 48 := by rw [← hb, hdd]; omega
                have t1 : decide ((d : Int) + 48 < 48) = false := by simp; omega
                have t2 : decide (57 < (d : Int) + 48) = false := by simp; omega
                have u1 : IntKind.u8.wrap ((d : Int) + 48 - 48) = d := by rw [IntKind.wrap_u8]; omega
                have m1 : IntKind.i64.wrap (10 * (V : Int)) = 10 * V := by rw [IntKind.wrap_i64]; omega
                have m2 : IntKind.i64.wrap (10 * (V : Int) + d) = 10 * V + d := by rw [IntKind.wrap_i64]; omega
                clear hall hval hdd hd hV hby hb hbn
                go_wp2_with fail
                go_roundw
                case rel => exact ⟨k + 1, by omega, by rw [HVAL.out]; congr 1; omega, by go_num, HALL, by first | rfl | trivial⟩
                case measure => simp [intOf]; omega
              · have hR : countR L = -1 := by
                  unfold countR
                  refine if_pos (Or.inr (Or.inr (Or.inr (Or.inl (all_no (k := k) (by omega) ?_)))))
                  rw [← hby]
                  simpa [digB] using hd
                have HR := Lib.hid hR
                have wk : ((s[k].toNat : Nat) : Int) = (b.toNat : Int) := by rw [← hb]
                clear hR hV hby hb
                go_wp2_with fail
                all_goals first
                  | (go_ret
                     exact ⟨ret_int HR.out.symm, rfl⟩)
                  | (exfalso; simp at *; omega)
            · obtain rfl : k = s.size := by omega
              have hLt : L.take s.size = L := by rw [List.take_of_length_le (by omega)]
              rw [hLt] at hV
              have hall : L.all digB = true := by have q := HA.out; rwa [hLt] at q
              have hR : countR L = if 1073741824 < V then -1 else (V : Int) := by
                unfold countR
                rw [← hV]
                by_cases q : 1073741824 < V
                · rw [if_pos q, if_pos (Or.inr (Or.inr (Or.inr (Or.inr q))))]
                · rw [if_neg q, if_neg]
                  rintro (p | p | p | p | p)
                  · omega
                  · omega
                  · exact HZ.out p
                  · rw [hall] at p; cases p
                  · exact q p
              have HR := Lib.hid hR
              clear hR hV hall
              by_cases q : 1073741824 < V
              · have tq : decide (1073741824 < (V : Int)) = true := by simp; omega
                go_wp2_with fail
                all_goals first
                  | (go_ret
                     exact ⟨ret_int (by rw [HR.out, if_pos q]), rfl⟩)
                  | (exfalso; simp at *; omega)
              · have tq : decide (1073741824 < (V : Int)) = false := by simp; omega
                go_wp2_with fail
                all_goals first
                  | (go_ret
                     exact ⟨ret_int (by rw [HR.out, if_neg q]), rfl⟩)
                  | (exfalso; simp at *; omega)
end Go.Proofs.YtjnhiiidcjajbaaGreatDoor
