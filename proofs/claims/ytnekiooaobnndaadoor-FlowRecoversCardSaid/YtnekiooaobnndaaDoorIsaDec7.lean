/-
 Small functions of flow.Recover: is an instruction a branch, does it stop; is an address inside a function; the closures of mark and plain.
 isa.Decode at every address, of whatever bytes.
-/
import Derived.Test.YtnekiooaobnndaaDoorIsaAt1
import Derived.Test.YtnekiooaobnndaaDoorIsaLaid
import Derived.OwnWalk
import Derived.Lib.Hide
import Derived.Test.YtnekiooaobnndaaDoorIsaDec3
import Derived.Test.YtnekiooaobnndaaDoorIsaDec4
import Derived.Test.YtnekiooaobnndaaDoorIsaDec5
import Derived.Test.YtnekiooaobnndaaDoorIsaDec6
section
set_option linter.all false
namespace Go.Proofs.YtnekiooaobnndaaDoor
open Go.RowKit BH
set_option maxHeartbeats 100000000
set_option maxRecDepth 100000
theorem zeroI9 (w : World) : (zeroValue 3).run Tryd.prog w = .ok (.int .i64 0) w := by kernel_rfl
theorem zeroB9 (w : World) : (zeroValue 4).run Tryd.prog w = .ok (.bool false) w := by kernel_rfl
theorem MKII : MK Tryd.prog 52 3 3 (fun x : Int => .int .i64 x) wfI (fun c : Int => .int .i64 c) litI wfI 0 :=
 mk_ii Tryd.underlying52 Tryd.underlying3 Tryd.underlying3 zeroI9
theorem MKIB : MK Tryd.prog 53 3 4 (fun x : Int => .int .i64 x) wfI (fun c : Bool => .bool c) litB (fun _ => True) false :=
 mk_ib Tryd.underlying53 Tryd.underlying3 Tryd.underlying4 zeroB9
abbrev MII (w : World) (b n : Nat) (m : Int → Option Int) : Prop := MapF Tryd.prog 3 3 (fun x : Int => .int .i64 x) wfI litI w b n m
theorem stops_any (K D A B N : Int) (Lg : Bool) (w : World) : Calls Tryd.prog 43 #[insV K D A B N Lg] w fun e w' => e = .returned (.bool (stN K)) ∧ Keeps w w' := by
 unfold insV stN
 by_cases h : K ≤ 3
 ·have t0 : decide (K ≤ 3) = true := decide_eq_true h
  rw [t0]
  clear h
  go_enter Tryd.func43, Tryd.ntmps43
  go_wp2_with fail
  go_ret
  exact ⟨rfl, (Keeps.refl _).alloc _⟩
 ·have t0 : decide (K ≤ 3) = false := decide_eq_false h
  obtain ⟨z, hz⟩ : ∃ z, z = (K == 24) := ⟨_, rfl⟩
  have hd : decide (K = 24) = z := by rw [hz]; rfl
  rw [t0, hd]
  have hz' := hz.symm
  clear h hz hd
  go_enter Tryd.func43, Tryd.ntmps43
  go_wp2_with fail
  go_ret
  exact ⟨rfl, (Keeps.refl _).alloc _⟩
theorem branch_any (K D A B N : Int) (Lg : Bool) (w : World) : Calls Tryd.prog 44 #[insV K D A B N Lg] w fun e w' => e = .returned (.bool (brN K)) ∧ Keeps w w' := by
 unfold insV brN
 by_cases h : 18 ≤ K
 ·have t0 : decide (18 ≤ K) = true := decide_eq_true h
  obtain ⟨z, hz⟩ : ∃ z, decide (K ≤ 21) = z := ⟨_, rfl⟩
  rw [t0, hz]
  clear h
  go_enter Tryd.func44, Tryd.ntmps44
  go_wp2_with fail
  go_ret
  exact ⟨by simp, (Keeps.refl _).alloc _⟩
 ·have t0 : decide (18 ≤ K) = false := decide_eq_false h
  rw [t0]
  clear h
  go_enter Tryd.func44, Tryd.ntmps44
  go_wp2_with fail
  go_ret
  exact ⟨by simp, (Keeps.refl _).alloc _⟩
theorem inside_any {xb ob n : Nat} {om : Int → Option Int} {f x : Int} {w : World} (hc : w.cell? ⟨xb, 7, none⟩ = some (.map (some ob))) (hm : MII w ob n om) (hx : wfI x) :
  Calls Tryd.prog 45 #[.pointer (some ⟨xb, 0, none⟩), .int .i64 f, .int .i64 x] w fun e w' => e = .returned (.bool (decide (om x = some f))) ∧ w = w' := by
 have HM := Lib.hid hm
 have HX := Lib.hid hx
 clear hm hx
 cases hom : om x with
 | none =>
  have hd : decide ((none : Option Int) = some f) = false := by simp
  rw [hd]
  have e1 : (om x).getD 0 = 0 := by rw [hom]; rfl
  have e2 : (om x).isSome = false := by rw [hom]; rfl
  have E1 := Lib.hid e1
  have E2 := Lib.hid e2
  clear hom e1 e2 hd
  go_enter Tryd.func45, Tryd.ntmps45
  go_wp2_with (at_lookup; refine wpList_look_ok _ rfl (.tmp 13) (.tmp 14) rfl MKII ob n om rfl HM.out x rfl HX.out ?_; rw [E1.out, E2.out])
  go_ret
  exact ⟨rfl, rfl⟩
 | some g =>
  obtain ⟨z, hz⟩ : ∃ z, (g == f) = z := ⟨_, rfl⟩
  have hd : decide (some g = some f) = z := by rw [← hz]; simp only [Option.some.injEq]; rfl
  rw [hd]
  have e1 : (om x).getD 0 = g := by rw [hom]; rfl
  have e2 : (om x).isSome = true := by rw [hom]; rfl
  have E1 := Lib.hid e1
  have E2 := Lib.hid e2
  clear hom e1 e2 hd
  go_enter Tryd.func45, Tryd.ntmps45
  go_wp2_with (at_lookup; refine wpList_look_ok _ rfl (.tmp 13) (.tmp 14) rfl MKII ob n om rfl HM.out x rfl HX.out ?_; rw [E1.out, E2.out])
  go_ret
  exact ⟨rfl, rfl⟩
theorem mark1_any {xb xp fp ob n : Nat} {om : Int → Option Int} {f x : Int} {w : World} (hp : w.cell? ⟨xp, 0, none⟩ = some (.pointer (some ⟨xb, 0, none⟩))) (hf : w.cell? ⟨fp, 0, none⟩ = some (.int .i64 f)) (hc : w.cell? ⟨xb, 7, none⟩ = some (.map (some ob))) (hm : MII w ob n om) (hx : wfI x) :
  Calls Tryd.prog 46 #[.int .i64 x, .pointer (some ⟨xp, 0, none⟩), .pointer (some ⟨fp, 0, none⟩)] w fun e w' => e = .returned (.bool (!decide (om x = some f))) ∧ w = w' := by
 have HI := Lib.hid (inside_any (f := f) hc hm hx)
 clear hc hm hx
 obtain ⟨z, hz⟩ : ∃ z, decide (om x = some f) = z := ⟨_, rfl⟩
 rw [hz] at HI ⊢
 go_enter Tryd.func46, Tryd.ntmps46
 go_wp2_with (go_at_call 45; refine HI.out.mono ?_; rintro e wa ⟨rfl, rfl⟩)
 go_ret
 exact ⟨rfl, rfl⟩
theorem mark2_any {tp : Nat} {x y z : Int} {s : ByteArray} {w : World} (hp : w.cell? ⟨tp, 0, none⟩ = some (.int .i64 x)) :
  Calls Tryd.prog 48 #[.agg #[.string s, .int .i64 y, .int .i64 z], .pointer (some ⟨tp, 0, none⟩)] w fun e w' => e = .returned (.bool (decide (y = x))) ∧ Keeps w w' := by
 have hl := lt_of_cell hp
 go_enter Tryd.func48, Tryd.ntmps48
 go_wp2_with fail
 go_ret
 exact ⟨rfl, (Keeps.refl _).alloc _⟩
end Go.Proofs.YtnekiooaobnndaaDoor
end
section
namespace Go.Proofs.YtnekiooaobnndaaDoor
open Go.RowKit BH
set_option maxHeartbeats 1000000
set_option maxRecDepth 100000
theorem byte_cells {w : World} {b off : Nat} {l : List UInt8} (h3 : ∀ i j, i < l.length → j < 1 → w.cell? ⟨b, off + i * 1 + j, none⟩ = some (.int .u8 ((nth l i).toNat : Int))) : ∀ i n, i < l.length → n = off + i → w.cell? ⟨b, n, none⟩ = some (.int .u8 (byteAt l i)) := by
 intro i n hi hn
 subst hn
 have := h3 i 0 hi (by omega)
 unfold byteAt
 simpa using this
/-- the answer, as it is returned -/
def DecAns (r : Ins × Int × Int) (w : World) (e : Ending) (w' : World) : Prop := e = .returned (.tuple #[r.1.v, .int .i64 r.2.1, .int .i64 r.2.2]) ∧ Keeps w w'
theorem decGives_ans {r : Ins × Int × Int} {i : Ins} {z : Int} {w w' : World} {e : Ending} (h : DecGives i z w e w') (hr : r = if insFault i.K i.D i.A i.B i.N i.Lg = 0 then (i, z, 0) else (zeroIns, 0, 4)) : DecAns r w e w' := by
 obtain ⟨h1, h2⟩ := h
 subst hr
 unfold DecAns
 by_cases hf : insFault i.K i.D i.A i.B i.N i.Lg = 0
 ·rw [if_pos hf] at h1 ⊢; exact ⟨h1, h2⟩
 ·rw [if_neg hf] at h1 ⊢; exact ⟨h1, h2⟩
/-- what is answered where all bytes are there -/
theorem decAns_at {l : List UInt8} {a k : Nat} {lg : Bool} (hk : kindOf (byteAt l a) = (k, lg)) (h1 : 1 ≤ k) (ha : a < l.length) {z : Int} (hz : insSize k lg = z) (hs : (a : Int) + z ≤ l.length) {i : Ins}
  (hi : rawIns k lg (byteAt l (a + 1)) (byteAt l (a + 2)) (byteAt l (a + 3)) = i) : decAns l a = if insFault i.K i.D i.A i.B i.N i.Lg = 0 then (i, z, 0) else (zeroIns, 0, 4) := by
 subst hi
 subst hz
 unfold decAns
 rw [if_neg (by omega)]
 simp only [Int.toNat_natCast, hk]
 rw [if_neg (by omega), if_neg (by omega)]
theorem decode_any (v : Value) (l : List UInt8) (x : Int) (w : World) (ht : Tab w) (hs : Siz w) (hb : Bytes w v l) (hl : l.length ≤ 140737488355328) :
  Calls Tryd.prog 42 #[v, .int .i64 x] w (DecAns (decAns l x) w) := by
 obtain ⟨ao, cap, rfl, h1, h2, h4, h3⟩ := hb
 by_cases hx : x < 0 ∨ (l.length : Int) ≤ x
 ·have e : decAns l x = (zeroIns, 0, 2) := by unfold decAns; rw [if_pos hx]
  rw [e]
  exact decode_out ao l.length cap x w hx
 obtain ⟨a, rfl⟩ : ∃ a : Nat, x = a := ⟨x.toNat, by omega⟩
 obtain ⟨b, off, rfl, hc⟩ := h3 (by omega)
 have c := byte_cells hc
 have hcm : cap ≤ 9223372036854775807 := by unfold maxLen at h2; omega
 obtain ⟨u0, u1⟩ := byteAt_bd l a
 obtain ⟨p0, p1⟩ := byteAt_bd l (a + 1)
 obtain ⟨q0, q1⟩ := byteAt_bd l (a + 2)
 obtain ⟨r0, r1⟩ := byteAt_bd l (a + 3)
 obtain ⟨k, lg, hk⟩ : ∃ k lg, kindOf (byteAt l a) = (k, lg) := ⟨_, _, rfl⟩
 obtain ⟨k24, klg⟩ := kindOf_bd (byteAt l a) u0 u1
 rw [hk] at k24 klg
 by_cases k0 : k = 0
 ·subst k0
  have e : decAns l a = (zeroIns, 0, 3) := by
   unfold decAns
   rw [if_neg hx]
   simp only [Int.toNat_natCast, hk]
   rw [if_pos trivial]
  rw [e]
  exact decode_nokind b off cap l.length a (byteAt l a) lg w ht (by omega) (c a _ (by omega) rfl) hk
 by_cases ks : (l.length : Int) < a + insSize k lg
 ·have e : decAns l a = (zeroIns, 0, 5) := by
   unfold decAns
   rw [if_neg hx]
   simp only [Int.toNat_natCast, hk]
   rw [if_neg k0, if_pos ks]
  rw [e]
  exact decode_short b off cap l.length a k lg (by omega) (by omega) (byteAt l a) w ht hs hl (by omega) ks (c a _ (by omega) rfl) hk
 have hlg : lg = true → 18 ≤ k ∧ k ≤ 22 := klg
 by_cases h_bare : k ≤ 4
 ·obtain rfl : lg = false := by cases lg with
  | false => rfl
  | true => exact absurd (hlg rfl) (by omega)
  have hz : insSize k false = 1 := by
   obtain rfl | rfl | rfl | rfl : k = 1 ∨ k = 2 ∨ k = 3 ∨ k = 4 := by omega
   all_goals rfl
  rw [hz] at ks
  have e := decAns_at hk (by omega) (by omega) hz (by omega) (i := ⟨k, 0, 0, 0, 0, false⟩) (by
   unfold rawIns
   repeat (first | rw [if_pos (by omega)] | rw [if_neg (by omega)])
   try simp only [cond_true, cond_false])
  exact (dec_bare b off cap l.length a k (by omega) (by omega) (byteAt l a) w ht hs h1 hcm (by omega) (c a _ (by omega) rfl)   hk).mono fun e' w' h => decGives_ans h e
 by_cases h_wide : k ≤ 5
 ·obtain rfl : lg = false := by cases lg with
  | false => rfl
  | true => exact absurd (hlg rfl) (by omega)
  have hz : insSize k false = 4 := by
   obtain rfl : k = 5 := by omega
   all_goals rfl
  rw [hz] at ks
  have e := decAns_at hk (by omega) (by omega) hz (by omega) (i := ⟨k, byteAt l (a + 1), 0, 0, num16 (byteAt l (a + 2)) (byteAt l (a + 3)), false⟩) (by
   unfold rawIns
   repeat (first | rw [if_pos (by omega)] | rw [if_neg (by omega)])
   try simp only [cond_true, cond_false])
  exact (dec_wide b off cap l.length a k (by omega) (by omega) (byteAt l a) (byteAt l (a + 1)) (byteAt l (a + 2)) (byteAt l (a + 3)) w ht hs h1 hcm (by omega) (c a _ (by omega) rfl) (c (a + 1) _ (by omega) (by omega)) (c (a + 2) _ (by omega) (by omega)) (c (a + 3) _ (by omega) (by omega)) p0 p1 q0 q1 r0 r1 hk).mono fun e' w' h => decGives_ans h e
 by_cases h_pairA : k ≤ 6
 ·obtain rfl : lg = false := by cases lg with
  | false => rfl
  | true => exact absurd (hlg rfl) (by omega)
  have hz : insSize k false = 3 := by
   obtain rfl : k = 6 := by omega
   all_goals rfl
  rw [hz] at ks
  have e := decAns_at hk (by omega) (by omega) hz (by omega) (i := ⟨k, byteAt l (a + 1) / 16, byteAt l (a + 1) % 16, 0, num8 (byteAt l (a + 2)), false⟩) (by
   unfold rawIns
   repeat (first | rw [if_pos (by omega)] | rw [if_neg (by omega)])
   try simp only [cond_true, cond_false])
  exact (dec_pairA b off cap l.length a k (by omega) (by omega) (byteAt l a) (byteAt l (a + 1)) (byteAt l (a + 2)) w ht hs h1 hcm (by omega) (c a _ (by omega) rfl) (c (a + 1) _ (by omega) (by omega)) (c (a + 2) _ (by omega) (by omega)) p0 p1 q0 q1 hk).mono fun e' w' h => decGives_ans h e
 by_cases h_three : k ≤ 13
 ·obtain rfl : lg = false := by cases lg with
  | false => rfl
  | true => exact absurd (hlg rfl) (by omega)
  have hz : insSize k false = 3 := by
   obtain rfl | rfl | rfl | rfl | rfl | rfl | rfl : k = 7 ∨ k = 8 ∨ k = 9 ∨ k = 10 ∨ k = 11 ∨ k = 12 ∨ k = 13 := by omega
   all_goals rfl
  rw [hz] at ks
  have e := decAns_at hk (by omega) (by omega) hz (by omega) (i := ⟨k, byteAt l (a + 1) / 16, byteAt l (a + 1) % 16, byteAt l (a + 2), 0, false⟩) (by
   unfold rawIns
   repeat (first | rw [if_pos (by omega)] | rw [if_neg (by omega)])
   try simp only [cond_true, cond_false])
  exact (dec_three b off cap l.length a k (by omega) (by omega) (byteAt l a) (byteAt l (a + 1)) (byteAt l (a + 2)) w ht hs h1 hcm (by omega) (c a _ (by omega) rfl) (c (a + 1) _ (by omega) (by omega)) (c (a + 2) _ (by omega) (by omega)) p0 p1 q0 q1 hk).mono fun e' w' h => decGives_ans h e
 by_cases h_pairB : k ≤ 14
 ·obtain rfl : lg = false := by cases lg with
  | false => rfl
  | true => exact absurd (hlg rfl) (by omega)
  have hz : insSize k false = 3 := by
   obtain rfl : k = 14 := by omega
   all_goals rfl
  rw [hz] at ks
  have e := decAns_at hk (by omega) (by omega) hz (by omega) (i := ⟨k, byteAt l (a + 1) / 16, byteAt l (a + 1) % 16, 0, num8 (byteAt l (a + 2)), false⟩) (by
   unfold rawIns
   repeat (first | rw [if_pos (by omega)] | rw [if_neg (by omega)])
   try simp only [cond_true, cond_false])
  exact (dec_pairB b off cap l.length a k (by omega) (by omega) (byteAt l a) (byteAt l (a + 1)) (byteAt l (a + 2)) w ht hs h1 hcm (by omega) (c a _ (by omega) rfl) (c (a + 1) _ (by omega) (by omega)) (c (a + 2) _ (by omega) (by omega)) p0 p1 q0 q1 hk).mono fun e' w' h => decGives_ans h e
 by_cases h_store : k ≤ 15
 ·obtain rfl : lg = false := by cases lg with
  | false => rfl
  | true => exact absurd (hlg rfl) (by omega)
  have hz : insSize k false = 3 := by
   obtain rfl : k = 15 := by omega
   all_goals rfl
  rw [hz] at ks
  have e := decAns_at hk (by omega) (by omega) hz (by omega) (i := ⟨k, 0, byteAt l (a + 1) % 16, byteAt l (a + 1) / 16, num8 (byteAt l (a + 2)), false⟩) (by
   unfold rawIns
   repeat (first | rw [if_pos (by omega)] | rw [if_neg (by omega)])
   try simp only [cond_true, cond_false])
  exact (dec_store b off cap l.length a k (by omega) (by omega) (byteAt l a) (byteAt l (a + 1)) (byteAt l (a + 2)) w ht hs h1 hcm (by omega) (c a _ (by omega) rfl) (c (a + 1) _ (by omega) (by omega)) (c (a + 2) _ (by omega) (by omega)) p0 p1 q0 q1 hk).mono fun e' w' h => decGives_ans h e
 by_cases h_dest : k ≤ 16
 ·obtain rfl : lg = false := by cases lg with
  | false => rfl
  | true => exact absurd (hlg rfl) (by omega)
  have hz : insSize k false = 2 := by
   obtain rfl : k = 16 := by omega
   all_goals rfl
  rw [hz] at ks
  have e := decAns_at hk (by omega) (by omega) hz (by omega) (i := ⟨k, byteAt l (a + 1), 0, 0, 0, false⟩) (by
   unfold rawIns
   repeat (first | rw [if_pos (by omega)] | rw [if_neg (by omega)])
   try simp only [cond_true, cond_false])
  exact (dec_dest b off cap l.length a k (by omega) (by omega) (byteAt l a) (byteAt l (a + 1)) w ht hs h1 hcm (by omega) (c a _ (by omega) rfl) (c (a + 1) _ (by omega) (by omega)) p0 p1 hk).mono fun e' w' h => decGives_ans h e
 by_cases h_source : k ≤ 17
 ·obtain rfl : lg = false := by cases lg with
  | false => rfl
  | true => exact absurd (hlg rfl) (by omega)
  have hz : insSize k false = 2 := by
   obtain rfl : k = 17 := by omega
   all_goals rfl
  rw [hz] at ks
  have e := decAns_at hk (by omega) (by omega) hz (by omega) (i := ⟨k, 0, byteAt l (a + 1), 0, 0, false⟩) (by
   unfold rawIns
   repeat (first | rw [if_pos (by omega)] | rw [if_neg (by omega)])
   try simp only [cond_true, cond_false])
  exact (dec_source b off cap l.length a k (by omega) (by omega) (byteAt l a) (byteAt l (a + 1)) w ht hs h1 hcm (by omega) (c a _ (by omega) rfl) (c (a + 1) _ (by omega) (by omega)) p0 p1 hk).mono fun e' w' h => decGives_ans h e
 by_cases h_branch : k ≤ 21
 ·cases lg with
  | false =>
   have hz : insSize k false = 3 := by
    obtain rfl | rfl | rfl | rfl : k = 18 ∨ k = 19 ∨ k = 20 ∨ k = 21 := by omega
    all_goals rfl
   rw [hz] at ks
   have e := decAns_at hk (by omega) (by omega) hz (by omega) (i := ⟨k, 0, byteAt l (a + 1) / 16, byteAt l (a + 1) % 16, num8 (byteAt l (a + 2)), false⟩) (by
    unfold rawIns
    repeat (first | rw [if_pos (by omega)] | rw [if_neg (by omega)])
    try simp only [cond_false])
   exact (dec_branchS b off cap l.length a k (by omega) (by omega) (byteAt l a) (byteAt l (a + 1)) (byteAt l (a + 2)) w ht hs h1 hcm (by omega) (c a _ (by omega) rfl) (c (a + 1) _ (by omega) (by omega)) (c (a + 2) _ (by omega) (by omega)) p0 p1 q0 q1 hk).mono fun e' w' h => decGives_ans h e
  | true =>
   have hz : insSize k true = 4 := by
    obtain rfl | rfl | rfl | rfl : k = 18 ∨ k = 19 ∨ k = 20 ∨ k = 21 := by omega
    all_goals rfl
   rw [hz] at ks
   have e := decAns_at hk (by omega) (by omega) hz (by omega) (i := ⟨k, 0, byteAt l (a + 1) / 16, byteAt l (a + 1) % 16, num16 (byteAt l (a + 2)) (byteAt l (a + 3)), true⟩) (by
    unfold rawIns
    repeat (first | rw [if_pos (by omega)] | rw [if_neg (by omega)])
    try simp only [cond_true])
   exact (dec_branchL b off cap l.length a k (by omega) (by omega) (byteAt l a) (byteAt l (a + 1)) (byteAt l (a + 2)) (byteAt l (a + 3)) w ht hs h1 hcm (by omega) (c a _ (by omega) rfl) (c (a + 1) _ (by omega) (by omega)) (c (a + 2) _ (by omega) (by omega)) (c (a + 3) _ (by omega) (by omega)) p0 p1 q0 q1 r0 r1 hk).mono fun e' w' h => decGives_ans h e
 by_cases h_jump : k ≤ 22
 ·cases lg with
  | false =>
   have hz : insSize k false = 2 := by
    obtain rfl : k = 22 := by omega
    all_goals rfl
   rw [hz] at ks
   have e := decAns_at hk (by omega) (by omega) hz (by omega) (i := ⟨k, 0, 0, 0, num8 (byteAt l (a + 1)), false⟩) (by
    unfold rawIns
    repeat (first | rw [if_pos (by omega)] | rw [if_neg (by omega)])
    try simp only [cond_false])
   exact (dec_jumpS b off cap l.length a k (by omega) (by omega) (byteAt l a) (byteAt l (a + 1)) w ht hs h1 hcm (by omega) (c a _ (by omega) rfl) (c (a + 1) _ (by omega) (by omega)) p0 p1 hk).mono fun e' w' h => decGives_ans h e
  | true =>
   have hz : insSize k true = 3 := by
    obtain rfl : k = 22 := by omega
    all_goals rfl
   rw [hz] at ks
   have e := decAns_at hk (by omega) (by omega) hz (by omega) (i := ⟨k, 0, 0, 0, num16 (byteAt l (a + 1)) (byteAt l (a + 2)), true⟩) (by
    unfold rawIns
    repeat (first | rw [if_pos (by omega)] | rw [if_neg (by omega)])
    try simp only [cond_true])
   exact (dec_jumpL b off cap l.length a k (by omega) (by omega) (byteAt l a) (byteAt l (a + 1)) (byteAt l (a + 2)) w ht hs h1 hcm (by omega) (c a _ (by omega) rfl) (c (a + 1) _ (by omega) (by omega)) (c (a + 2) _ (by omega) (by omega)) p0 p1 q0 q1 hk).mono fun e' w' h => decGives_ans h e
 by_cases h_call : k ≤ 23
 ·obtain rfl : lg = false := by cases lg with
  | false => rfl
  | true => exact absurd (hlg rfl) (by omega)
  have hz : insSize k false = 3 := by
   obtain rfl : k = 23 := by omega
   all_goals rfl
  rw [hz] at ks
  have e := decAns_at hk (by omega) (by omega) hz (by omega) (i := ⟨k, 0, 0, 0, num16 (byteAt l (a + 1)) (byteAt l (a + 2)), false⟩) (by
   unfold rawIns
   repeat (first | rw [if_pos (by omega)] | rw [if_neg (by omega)])
   try simp only [cond_true, cond_false])
  exact (dec_call b off cap l.length a k (by omega) (by omega) (byteAt l a) (byteAt l (a + 1)) (byteAt l (a + 2)) w ht hs h1 hcm (by omega) (c a _ (by omega) rfl) (c (a + 1) _ (by omega) (by omega)) (c (a + 2) _ (by omega) (by omega)) p0 p1 q0 q1 hk).mono fun e' w' h => decGives_ans h e
 by_cases h_table : k ≤ 24
 ·obtain rfl : lg = false := by cases lg with
  | false => rfl
  | true => exact absurd (hlg rfl) (by omega)
  have hz : insSize k false = 3 := by
   obtain rfl : k = 24 := by omega
   all_goals rfl
  rw [hz] at ks
  have e := decAns_at hk (by omega) (by omega) hz (by omega) (i := ⟨k, 0, byteAt l (a + 1), 0, byteAt l (a + 2), false⟩) (by
   unfold rawIns
   repeat (first | rw [if_pos (by omega)] | rw [if_neg (by omega)])
   try simp only [cond_true, cond_false])
  exact (dec_table b off cap l.length a k (by omega) (by omega) (byteAt l a) (byteAt l (a + 1)) (byteAt l (a + 2)) w ht hs h1 hcm (by omega) (c a _ (by omega) rfl) (c (a + 1) _ (by omega) (by omega)) (c (a + 2) _ (by omega) (by omega)) p0 p1 q0 q1 hk).mono fun e' w' h => decGives_ans h e
 omega
end Go.Proofs.YtnekiooaobnndaaDoor
end
