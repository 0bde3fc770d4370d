/-
  The document's tape: a number.
-/
import Derived.Test.YtpgifkhgefbnfaaTape
namespace Go.Proofs.Ytpgifkhgefbnfaa
open Go.RowKit BH
set_option maxHeartbeats 4000000
set_option maxRecDepth 100000
def vf (x : Int) (l : List UInt8) : Int := l.foldl (fun x b => wrap64 (x * 256 + (b.toNat : Int))) x
theorem vf_eq : ∀ (l : List UInt8) (x y : Int), l ≠ [] → (18446744073709551616 : Int) ∣ (x - y) * 256 ^ l.length → vf x l = vf y l := by
  intro l
  induction l with
  | nil => intro _ _ h; exact absurd rfl h
  | cons b r ih =>
    intro x y _ ⟨q, hq⟩
    show vf (wrap64 (x * 256 + b.toNat)) r = vf (wrap64 (y * 256 + b.toNat)) r
    obtain ⟨qx, hx⟩ : ∃ q, wrap64 (x * 256 + b.toNat) = x * 256 + b.toNat - 18446744073709551616 * q := ⟨(x * 256 + b.toNat + 9223372036854775808) / 18446744073709551616, by unfold wrap64; omega⟩
    obtain ⟨qy, hy⟩ : ∃ q, wrap64 (y * 256 + b.toNat) = y * 256 + b.toNat - 18446744073709551616 * q := ⟨(y * 256 + b.toNat + 9223372036854775808) / 18446744073709551616, by unfold wrap64; omega⟩
    by_cases hr : r = []
    · subst hr
      have e : wrap64 (x * 256 + b.toNat) = wrap64 (y * 256 + b.toNat) := by
        simp only [List.length_cons, List.length_nil] at hq
        have : (x - y) * 256 = 18446744073709551616 * q := by simpa using hq
        unfold wrap64
        omega
      rw [e]
    · refine ih _ _ hr ⟨q - (qx - qy) * 256 ^ r.length, ?_⟩
      rw [hx, hy, Int.mul_sub, ← hq, List.length_cons, Int.pow_succ]
      generalize (256 : Int) ^ r.length = P
      rw [show x * 256 + (b.toNat : Int) - 18446744073709551616 * qx - (y * 256 + (b.toNat : Int) - 18446744073709551616 * qy) = (x - y) * 256 - 18446744073709551616 * (qx - qy) by omega, Int.sub_mul, Int.mul_assoc, Int.mul_comm 256 P, Int.mul_assoc]
theorem vf_eight {l : List UInt8} (h : l.length = 8) : vf (-1) l = val l := vf_eq l (-1) 0 (by intro e; rw [e] at h; cases h) ⟨-1, by rw [h]; decide⟩
theorem vf_succ {l : List UInt8} {i : Nat} (x : Int) (h : i < l.length) : vf x (l.take (i + 1)) = wrap64 (vf x (l.take i) * 256 + ((nth l i).toNat : Int)) := by
  rw [nth_eq _ _ h, List.take_succ_eq_append_getElem h]
  unfold vf
  rw [List.foldl_append]
  rfl
theorem wrap_in (x b : Int) : wrap64 (wrap64 (x * 256) + b) = wrap64 (x * 256 + b) := by unfold wrap64; omega
theorem num_tp (W0 : World) (g : Nat) (l0 : List UInt8) (K : Int) (p : PS) (w : World) (hk : Keeps W0 w) (hr : TpAt W0 g l0 p w) (hl0 : l0.length ≤ 100000) (h0 : 0 ≤ K) (h1 : K ≤ 8) :
    Calls Try.prog 29 #[.pointer (some ⟨g, 0, none⟩), .int .i64 K] w fun e w' => e = .returned (.int .i64 (nm K p).1) ∧ w.grownBy w' (some g) ∧ TpAt W0 g l0 (nm K p).2 w' := by
  unfold nm
  have hlen := tk_len K p h0
  have HT := Lib.hid (next_any W0 g l0 K p w hk hr hl0 h0 (by omega))
  generalize tk K p = q at HT hlen ⊢
  obtain ⟨l, p'⟩ := q
  simp only [] at HT hlen ⊢
  clear hk hr h0 hl0
  go_enter Try.func29, Try.ntmps29
  go_wp2_with fail
  refine HT.out.mono ?_
  rintro e w1 ⟨v, rfl, hv, hnew, hgr, hrd⟩
  have HR := Lib.hid (show w.grownBy w1 (some g) ∧ TpAt W0 g l0 p' w1 from ⟨hgr, hrd⟩)
  obtain ⟨a, c, rfl, q1, q2, q3, q4⟩ := hv
  clear hnew hgr hrd HT q1 q2 q3
  by_cases h8 : l.length = 8
  · have h8i : (8 : Int) = (l.length : Int) := by omega
    have HE := Lib.hid (vf_eight h8)
    obtain ⟨b, off, rfl, hc⟩ := q4 (by omega)
    have c0 : w1.cell? ⟨b, off, none⟩ = some (.int .u8 ((nth l 0).toNat : Int)) := by simpa using hc 0 0 (by omega) (by omega)
    have HC := Lib.hid hc
    have hb0 : (0 : Int) ≤ ((nth l 0).toNat : Int) := by omega
    have hb1 := byte_bd (nth l 0)
    have hl8 := Lib.hid h8
    have hl9 : l.length ≤ 8 := by omega
    have t0 : ((l.length : Int) == 8) = true := by rw [h8]; rfl
    have p8 : 0 < l.length := by omega
    clear h8 h8i hc q4
    by_cases hx : (128 : Int) ≤ ((nth l 0).toNat : Int)
    · have t1 : decide ((128 : Int) ≤ ((nth l 0).toNat : Int)) = true := by simpa using hx
      have HEQ := HE
      go_wp2_with fail
      go_loopw [6, 7] (fun s6 s7 wr => ∃ i : Nat, i ≤ l.length ∧ s7 = .int .i64 i ∧ s6 = .int .i64 (vf (-1) (l.take i)) ∧ wr = w1) (fun _ s7 _ => l.length - (intOf s7).toNat)
      case atStart => exact ⟨0, Nat.zero_le _, rfl, rfl, rfl⟩
      case round =>
        obtain ⟨i, hi, rfl, rfl, rfl⟩ := hrel
        by_cases hlt : i < l.length
        · have hc := HC.out
          have ci : wr.cell? ⟨b, off + i, none⟩ = some (.int .u8 ((nth l i).toNat : Int)) := by simpa using hc i 0 hlt (by omega)
          have HS := Lib.hid (vf_succ (-1) hlt)
          have HO := Lib.hid (wrap_in (vf (-1) (l.take i)) (nth l i).toNat)
          have hb2 : (0 : Int) ≤ ((nth l i).toNat : Int) := by omega
          have hb3 := byte_bd (nth l i)
          clear hc HEQ HC c0
          generalize vf (-1) (l.take i) = x at *
          generalize nth l i = y at *
          go_wp2_with fail
          go_roundw
          case rel =>
            refine ⟨i + 1, by omega, by go_num, ?_, trivial⟩
            rw [HS.out, ← HO.out]
          case measure => simp [intOf]; omega
        · obtain rfl : i = l.length := by omega
          rw [List.take_length]
          rw [HEQ.out]
          go_wp2_with fail
          go_ret
          exact ⟨rfl, HR.out⟩
    · have t1 : decide ((128 : Int) ≤ ((nth l 0).toNat : Int)) = false := by simpa using hx
      have HEQ := Lib.hid (show vf 0 l = val l from rfl)
      go_wp2_with fail
      go_loopw [6, 7] (fun s6 s7 wr => ∃ i : Nat, i ≤ l.length ∧ s7 = .int .i64 i ∧ s6 = .int .i64 (vf 0 (l.take i)) ∧ wr = w1) (fun _ s7 _ => l.length - (intOf s7).toNat)
      case atStart => exact ⟨0, Nat.zero_le _, rfl, rfl, rfl⟩
      case round =>
        obtain ⟨i, hi, rfl, rfl, rfl⟩ := hrel
        by_cases hlt : i < l.length
        · have hc := HC.out
          have ci : wr.cell? ⟨b, off + i, none⟩ = some (.int .u8 ((nth l i).toNat : Int)) := by simpa using hc i 0 hlt (by omega)
          have HS := Lib.hid (vf_succ 0 hlt)
          have HO := Lib.hid (wrap_in (vf 0 (l.take i)) (nth l i).toNat)
          have hb2 : (0 : Int) ≤ ((nth l i).toNat : Int) := by omega
          have hb3 := byte_bd (nth l i)
          clear hc HEQ HC c0
          generalize vf 0 (l.take i) = x at *
          generalize nth l i = y at *
          go_wp2_with fail
          go_roundw
          case rel =>
            refine ⟨i + 1, by omega, by go_num, ?_, trivial⟩
            rw [HS.out, ← HO.out]
          case measure => simp [intOf]; omega
        · obtain rfl : i = l.length := by omega
          rw [List.take_length]
          rw [HEQ.out]
          go_wp2_with fail
          go_ret
          exact ⟨rfl, HR.out⟩
  · have hl9 : l.length ≤ 8 := by omega
    have t0 : ((l.length : Int) == 8) = false := by simp; omega
    have HEQ := Lib.hid (show vf 0 l = val l from rfl)
    have HC := Lib.hid q4
    clear h8 q4
    go_wp2_with fail
    go_loopw [6, 7] (fun s6 s7 wr => ∃ i : Nat, i ≤ l.length ∧ s7 = .int .i64 i ∧ s6 = .int .i64 (vf 0 (l.take i)) ∧ wr = w1) (fun _ s7 _ => l.length - (intOf s7).toNat)
    case atStart => exact ⟨0, Nat.zero_le _, rfl, rfl, rfl⟩
    case round =>
      obtain ⟨i, hi, rfl, rfl, rfl⟩ := hrel
      by_cases hlt : i < l.length
      · obtain ⟨b, off, rfl, hc⟩ := HC.out (by omega)
        have ci : wr.cell? ⟨b, off + i, none⟩ = some (.int .u8 ((nth l i).toNat : Int)) := by simpa using hc i 0 hlt (by omega)
        have HS := Lib.hid (vf_succ 0 hlt)
        have HO := Lib.hid (wrap_in (vf 0 (l.take i)) (nth l i).toNat)
        have hb2 : (0 : Int) ≤ ((nth l i).toNat : Int) := by omega
        have hb3 := byte_bd (nth l i)
        clear hc HEQ HC
        generalize vf 0 (l.take i) = x at *
        generalize nth l i = y at *
        go_wp2_with fail
        go_roundw
        case rel =>
          refine ⟨i + 1, by omega, by go_num, ?_, trivial⟩
          rw [HS.out, ← HO.out]
        case measure => simp [intOf]; omega
      · obtain rfl : i = l.length := by omega
        rw [List.take_length]
        rw [HEQ.out]
        go_wp2_with fail
        go_ret
        exact ⟨rfl, HR.out⟩
end Go.Proofs.Ytpgifkhgefbnfaa
