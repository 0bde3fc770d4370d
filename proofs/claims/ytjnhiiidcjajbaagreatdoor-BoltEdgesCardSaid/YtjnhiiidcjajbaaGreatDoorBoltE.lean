/-
  bolt.Edges: the edges of a tally's text between the blocks of a flow; bolt.Optimize of no bytes.
-/
import Derived.Test.YtjnhiiidcjajbaaGreatDoorTalRead
import Derived.Test.YtjnhiiidcjajbaaGreatDoorTalRef
import Derived.Test.YtjnhiiidcjajbaaGreatDoorTalMapR
import Derived.Test.YtjnhiiidcjajbaaGreatDoorSameEd
import Derived.Test.YtjnhiiidcjajbaaGreatDoorDecode
namespace Go.Proofs.YtjnhiiidcjajbaaGreatDoor
open Go.RowKit BH
set_option maxHeartbeats 100000000
set_option maxRecDepth 100000
def EdB (e : Ed) : Prop := 0 ≤ e.From ∧ e.From ≤ 1073741824 ∧ 0 ≤ e.To ∧ e.To ≤ 1073741824 ∧ 0 ≤ e.Count ∧ e.Count ≤ 1073741824
theorem countR_le (l : List UInt8) : countR l ≤ 1073741824 := by
  unfold countR
  split
  · decide
  · omega
theorem readS_bd : ∀ (f : Nat) (acc : List Ed) (s : List UInt8), (∀ e ∈ acc, EdB e) → (∀ e ∈ (readS f acc s).2, EdB e) ∧ (readS f acc s).2.length ≤ acc.length + f
  | 0, acc, _, h => ⟨h, Nat.le_refl _⟩
  | f + 1, acc, s, h => by
    unfold readS
    split
    · exact ⟨h, by show acc.length ≤ acc.length + (f + 1); omega⟩
    · split
      · exact ⟨fun e he => (by cases he), Nat.zero_le _⟩
      · split
        · exact ⟨fun e he => (by cases he), Nat.zero_le _⟩
        · rename_i hq
          have ih := readS_bd f (acc ++ [⟨countR (nth (spl 32 (s.take (toC 10 s))) 0), countR (nth (spl 32 (s.take (toC 10 s))) 1), countR (nth (spl 32 (s.take (toC 10 s))) 2)⟩]) (s.drop (toC 10 s + 1)) (fun e he => by
            rcases List.mem_append.1 he with z | z
            · exact h e z
            · rw [List.mem_singleton.1 z]
              have b0 := countR_le (nth (spl 32 (s.take (toC 10 s))) 0)
              have b1 := countR_le (nth (spl 32 (s.take (toC 10 s))) 1)
              have b2 := countR_le (nth (spl 32 (s.take (toC 10 s))) 2)
              exact ⟨by dsimp only; omega, by dsimp only; omega, by dsimp only; omega, by dsimp only; omega, by dsimp only; omega, by dsimp only; omega⟩)
          exact ⟨ih.1, by have := ih.2; rw [List.length_append, List.length_singleton] at this; omega⟩
theorem tallyS_bd (s : List UInt8) : (∀ e ∈ (tallyS s).2, EdB e) ∧ (tallyS s).2.length ≤ 4001 := by
  unfold tallyS
  split
  · exact ⟨fun e he => (by cases he), Nat.zero_le _⟩
  · have := readS_bd (s.length + 1) [] s (fun e he => by cases he)
    exact ⟨this.1, by have := this.2; rw [List.length_nil] at this; omega⟩
/-- what bolt.Edges answers -/
def edgesS (f : Fl) (s : List UInt8) : List Ed := if (tallyS s).1 = 0 then mapS f (tallyS s).2 else []
theorem edgesN_nil (w : World) : Edges w (.slice none 0 0) [] := ⟨none, 0, rfl, Nat.le_refl _, Nat.zero_le _, fun _ => rfl, fun h => absurd h (Nat.lt_irrefl 0)⟩
theorem edges_any {vf : Value} {f : Fl} {s : ByteArray} {w : World} (hf : FlowAt w vf f) (hs : FlowSmall f) (hwb : ∀ i, i < f.Blocks.length → wfI (nth f.Blocks i).Start ∧ ∀ j, j < (nth f.Blocks i).At.length → wfI (nth (nth f.Blocks i).At j)) (hT : TalW w) :
    Calls Tryz.prog 5 #[vf, .string s] w (Gives (fun v w' => Edges w' v (edgesS f s.data.toList)) w) := by
  have HRD := Lib.hid (fun (w' : World) (hk : Keeps w w') => read_any s w' (hT.keep hk))
  have hbd := (tallyS_bd s.data.toList).1
  have hE : edgesS f s.data.toList = if (tallyS s.data.toList).1 = 0 then mapS f (tallyS s.data.toList).2 else [] := rfl
  obtain ⟨er, l, hr⟩ : ∃ er l, tallyS s.data.toList = (er, l) := ⟨_, _, rfl⟩
  rw [hr] at HRD hbd hE
  dsimp only at HRD hbd hE
  clear hr
  obtain ⟨R, hR⟩ : ∃ R, R = edgesS f s.data.toList := ⟨_, rfl⟩
  rw [← hR] at hE ⊢
  have hwe : ∀ i, i < l.length → wfI (nth l i).From ∧ wfI (nth l i).To := fun i hi => by
    have h := hbd (nth l i) (by rw [nth_eq _ _ hi]; exact List.getElem_mem _)
    obtain ⟨h1, h2, h3, h4, -⟩ := h
    exact ⟨wfI_of (by omega) (by omega), wfI_of (by omega) (by omega)⟩
  have HMP := Lib.hid (fun (w' : World) (x : Value) (hk : Keeps w w') (hx : Edges w' x l) => map_any (f := f) (l := l) (vf := vf) (vl := x) (hf.keep hk) hx hs hwb hwe)
  obtain ⟨v0, v1, v2, rfl, -⟩ := hf
  obtain ⟨W, hW, hB, hkW⟩ : ∃ W, W = w.alloc (.cells #[v0, v1, v2] 26) ∧ Blk W w.heap.size (.cells #[v0, v1, v2] 26) ∧ Keeps w W := ⟨_, rfl, Blk.top _ _, (Keeps.refl _).alloc _⟩
  have HW := Lib.hid hW
  have HK := Lib.hid hkW
  have HB := Lib.hid hB
  obtain ⟨E, hEE⟩ : ∃ z, z = mapE l := ⟨_, rfl⟩
  rw [← hEE] at HMP
  clear hs hwb hwe hW hB hkW hbd hR hT hEE
  have HE := Lib.hid hE
  clear hE
  go_enter Tryz.func5, Tryz.ntmps5
  go_upto_region 1 with fail
  rw [← HW.out]
  clear HW
  by_cases h0 : er = 0
  case neg =>
    have t0 : (er != 0) = true := by simpa using h0
    have hRn : R = [] := by rw [HE.out, if_neg h0]
    have HRN := Lib.hid hRn
    clear h0 hRn
    go_wp2_with (go_at_call 12; refine (HRD.out _ (HK.out.trans (by repeat (with_reducible (first | assumption | exact Keeps.refl _ | refine Keeps.alloc ?_ _ | refine Keeps.drew ?_ | refine Keeps.drewN ?_ _))))).mono ?_; rintro e w1 ⟨v1, rfl, he1, hk1⟩; obtain ⟨a1, c1, e1⟩ := Arr.form he1; subst e1; clear he1)
    go_ret
    exact ⟨_, rfl, by rw [HRN.out]; exact edgesN_nil _, HK.out.trans hk1⟩
  case pos =>
    subst h0
    have hRm : R = mapS f l := by rw [HE.out, if_pos rfl]
    have HRM := Lib.hid hRm
    clear hRm
    go_wp2_with (first
      | (go_at_call 12; refine (HRD.out _ (HK.out.trans (by repeat (with_reducible (first | assumption | exact Keeps.refl _ | refine Keeps.alloc ?_ _ | refine Keeps.drew ?_ | refine Keeps.drewN ?_ _))))).mono ?_; rintro e w1 ⟨v1, rfl, he1, hk1⟩; obtain ⟨a1, c1, e1⟩ := Arr.form he1; subst e1; have HE1 := Lib.hid he1; clear he1; have b0 := (HB.out.keep hk1).cell (j := 0) rfl; have b1 := (HB.out.keep hk1).cell (j := 1) rfl; have b2 := (HB.out.keep hk1).cell (j := 2) rfl)
      | (go_at_call 13; refine (HMP.out _ _ (HK.out.trans (hk1.trans (by repeat (with_reducible (first | assumption | exact Keeps.refl _ | refine Keeps.alloc ?_ _ | refine Keeps.drew ?_ | refine Keeps.drewN ?_ _))))) (Arr.keep HE1.out (by repeat (with_reducible (first | assumption | exact Keeps.refl _ | refine Keeps.alloc ?_ _ | refine Keeps.drew ?_ | refine Keeps.drewN ?_ _))))).mono ?_; rintro e w2 ⟨v2, rfl, he2, hk2⟩; obtain ⟨a2, c2, e2⟩ := Arr.form he2; subst e2; have HE2 := Lib.hid he2; clear he2))
    go_ret
    exact ⟨_, rfl, by rw [HRM.out]; exact HE2.out, HK.out.trans (hk1.trans hk2)⟩
theorem bytesN_nil (w : World) : Bytes w (.slice none 0 0) [] := ⟨none, 0, rfl, Nat.le_refl _, Nat.zero_le _, fun _ => rfl, fun h => absurd h (Nat.lt_irrefl 0)⟩
theorem dec_nil : (decImg []).2 = 5 := by rfl
theorem optNil_any (s : ByteArray) (w : World) : Calls Tryz.prog 7 #[.slice none 0 0, .string s] w fun e w' => e = .returned (.tuple #[.slice none 0 0, .int .i64 5]) ∧ Keeps w w' := by
  have HD := Lib.hid (fun w' => imgDecode_any _ [] w' (bytesN_nil w'))
  rw [dec_nil] at HD
  obtain ⟨m, hm⟩ : ∃ m, m = (decImg []).1 := ⟨_, rfl⟩
  rw [← hm] at HD
  clear hm
  go_enter Tryz.func7, Tryz.ntmps7
  go_wp2_with (go_at_call 15; refine (HD.out _).mono ?_; rintro e w1 ⟨v1, rfl, ⟨x0, x1, x2, x3, x4, rfl, i0, i1, ⟨tv, i2, -⟩, i3, i4⟩, hk1⟩; obtain ⟨a0, c0, rfl⟩ := Arr.form i0; obtain ⟨a1, c1, rfl⟩ := Arr.form i1; obtain ⟨a2, c2, rfl⟩ := Arr.form i2; obtain ⟨a3, c3, rfl⟩ := Arr.form i3; obtain ⟨a4, c4, rfl⟩ := Arr.form i4; clear i0 i1 i2 i3 i4)
  refine bodyPost_ret (results_tmp2 rfl _ _ _) rfl ?_
  exact ⟨rfl, by repeat (with_reducible (first | assumption | exact Keeps.refl _ | refine Keeps.alloc ?_ _ | refine Keeps.drew ?_))⟩
end Go.Proofs.YtjnhiiidcjajbaaGreatDoor
