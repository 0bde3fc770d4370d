/-
  The law IsaEncodes, for every instruction, and its card: isa.Encode answers what the document's BytesOf answers. The one condition is the row's own: the table isa.rows holds what its initialiser lays, which the card ties to the program's text.
-/
import Derived.Test.YtckofmijaiahbaaDoorCards
import Derived.Test.YtckofmijaiahbaaDoorTie
import Derived.Test.YtckofmijaiahbaaDoorIsaEnc
import Derived.Test.YtckofmijaiahbaaDoorIsaLaid
import Derived.Test.YtckofmijaiahbaaDoorIsaOpen
import Derived.Deep.DeepHandedRow
import Derived.Laws.IdiomStrings
import Derived.Lib.BufferRead
namespace Go.Proofs.YtckofmijaiahbaaDoor.isaEncodes
open Go.ChangeShapes Go.WideShapes Go.ChangeAt Go.RowKit BH

set_option maxHeartbeats 1000000
set_option maxRecDepth 100000
/-- 'string(b)', b a slice of bytes that read as numbers: the string is the same wherever they lie -/
theorem run_string_octs {P : Program} {w : World} {v : Value} {l : List Int} (h : Octs w v l) (hb : ∀ x ∈ l, 0 ≤ x ∧ x < 256) {src dst e : TypeId} (hs : P.underlying src = some (.slice e)) (he : P.underlying e = some (.int .u8)) (hd : P.underlying dst = some .string) :
    (convert src dst v).run P w = .ok (.string ⟨(l.map fun x => UInt8.ofNat x.toNat).toArray⟩) w := by
  obtain ⟨ao, cap, rfl, -, -, -, hc⟩ := h
  cases ao with
  | none =>
    have hl : l = [] := by
      cases l with
      | nil => rfl
      | cons x r => obtain ⟨b, off, hab, _⟩ := hc (by simp); cases hab
    subst hl
    exact Lib.run_convert_nil_bytes w src dst e cap hs he hd
  | some a =>
    have hlen : l.length = (l.map fun x => UInt8.ofNat x.toNat).length := by simp
    rw [hlen]
    refine run_convert_bytes_back w src dst e a cap (l.map fun x => UInt8.ofNat x.toNat) hs he hd fun j hj => ?_
    have hj' : j < l.length := by simpa using hj
    obtain ⟨b, off, hab, hcell⟩ := hc (by omega)
    cases hab
    have h0 : w.cell? ⟨b, off + j * 1 + 0, none⟩ = some (.int .u8 (nth l j)) := hcell j 0 hj' (by omega)
    rw [nth_eq l j hj'] at h0
    have hbd := hb l[j] (List.getElem_mem hj')
    have hval : (((l.map fun x => UInt8.ofNat x.toNat)[j]).toNat : Int) = l[j] := by
      rw [List.getElem_map, UInt8.toNat_ofNat']
      omega
    rw [hval, ← h0]
    unfold Addr.add
    split
    · rename_i hz; subst hz; simp
    · simp
theorem insBytes_bd {K D A B N : Int} {Lg : Bool} : ∀ x ∈ encAns K D A B N Lg, 0 ≤ x ∧ x < 256 := by
  unfold encAns
  by_cases h : insFault K D A B N Lg = 0
  · rw [if_pos h]
    obtain ⟨b1, b2⟩ := insFault_kind h
    obtain ⟨k, rfl⟩ : ∃ k : Nat, K = k := ⟨K.toNat, by omega⟩
    obtain ⟨-, -, ⟨r1, r2, r3, r4, r5, r6⟩, n1, n2, -⟩ := insFault_zero h
    rw [Int.toNat_natCast]
    obtain ⟨o1, o2, o3, o4⟩ := op_bounds k (by omega)
    have hlast : ∀ Lg, ∀ x ∈ lastB N Lg, 0 ≤ x ∧ x < 256 := by
      intro Lg x hx
      cases Lg <;> simp [lastB, lowB, highB] at hx <;> omega
    unfold insBytes
    intro x hx
    rcases List.mem_cons.1 hx with rfl | hx
    · cases Lg
      · exact ⟨o1, o2⟩
      · exact ⟨o3, o4⟩
    · repeat' split at hx
      all_goals first
        | (simp at hx; done)
        | (exact hlast _ x hx)
        | (simp [lowB, highB] at hx; omega)
        | (rcases List.mem_cons.1 hx with rfl | hx
           · omega
           · exact hlast _ x hx)
  · rw [if_neg h]; intro x hx; cases hx

theorem walk (K D A B N : Int) (Lg : Bool) (w : World) (ht : Tab w) :
    Calls Tryd.prog 4 #[insV K D A B N Lg] w fun e w' => e = .returned (.bool true) ∧ Keeps w w' := by
  have HC := Lib.hid (encode_any K D A B N Lg _ (ht.keep ((Keeps.refl w).alloc (.cells #[.int .i64 K, .int .i64 D, .int .i64 A, .int .i64 B, .int .i64 N, .bool Lg] 23))))
  have HR := Lib.hid (bytesOf_any K D A B N Lg)
  have HD := Lib.hid (insBytes_bd (K := K) (D := D) (A := A) (B := B) (N := N) (Lg := Lg))
  generalize encAns K D A B N Lg = l at HC HR HD
  generalize insFault K D A B N Lg = F at HC HR
  unfold insV at HC HR ⊢
  clear ht
  go_enter Tryd.func4, Tryd.ntmps4
  go_wp2_with fail
  refine HC.out.mono ?_
  rintro e w1 ⟨va, rfl, ha, hk1⟩
  have hb0 : w1.cell? ⟨w.heap.size, 0, none⟩ = some (.int .i64 K) := hk1.cell (by simp)
  have hb1 : w1.cell? ⟨w.heap.size, 1, none⟩ = some (.int .i64 D) := hk1.cell (by simp)
  have hb2 : w1.cell? ⟨w.heap.size, 2, none⟩ = some (.int .i64 A) := hk1.cell (by simp)
  have hb3 : w1.cell? ⟨w.heap.size, 3, none⟩ = some (.int .i64 B) := hk1.cell (by simp)
  have hb4 : w1.cell? ⟨w.heap.size, 4, none⟩ = some (.int .i64 N) := hk1.cell (by simp)
  have hb5 : w1.cell? ⟨w.heap.size, 5, none⟩ = some (.bool Lg) := hk1.cell (by simp)
  have HA := Lib.hid ha
  clear ha
  go_wp2_with fail
  refine (HR.out _).mono ?_
  rintro e w2 ⟨vb, rfl, hb, hk2⟩
  have e1 := run_string_octs (P := Tryd.prog) (Arr.keep HA.out hk2) HD.out Tryd.underlying28 Tryd.underlying5 Tryd.underlying9
  have e2 := run_string_octs (P := Tryd.prog) hb HD.out Tryd.underlying28 Tryd.underlying5 Tryd.underlying9
  clear hb
  go_wp2
  go_ret
  exact ⟨by simp, (((Keeps.refl _).alloc _).trans hk1).trans hk2⟩

theorem own : ownKnob Tryd.prog.godebug = none := by kernel_rfl
theorem laidOut : laidOutB Tryd.prog = true := by kernel_rfl
theorem reads : ∀ t ∈ Tryd.f4.params.toList, Tryd.prog.readableRec t = true ∧ t < Tryd.prog.types.size := by
  intro t ht
  rw [Tryd.params4] at ht
  simp only [List.mem_cons, List.mem_nil_iff, or_false] at ht
  subst ht
  exact ⟨by kernel_rfl, of_decide_eq_true (by kernel_rfl)⟩

theorem contract (H : Type) (enc : TypeId × Value → H) (W : World) (base : Nat) (args : Array Value) (ds gs : List (DataW H)) (before : List MemPlace)
    (hval : ∀ (j : Nat) t v, Tryd.f4.params[j]? = some t → args[j]? = some v → Value.okWide Tryd.prog W .any base t v)
    (hW : DataW.Whole enc Tryd.prog Tryd.f4.params.toList Rows.isaEncodesSpec.vars false W args.toList ds gs before)
    (hsz : (DataW.weightsEach Tryd.prog (Tryd.f4.params.toList ++ []) (ds ++ gs)).all (· ≤ reachBytes) = true)
    (hL : laidMetH Tryd.prog Rows.isaEncodesRow.laid W) :
    Calls Tryd.prog 4 args W fun e W' => ∃ v, e = .returned v ∧ Rows.isaEncodesSpec.post enc Tryd.prog Tryd.f4 false true false false W args v W' := by
  have hT : Tab W := tab_of_laid hL
  have hW' := hW
  obtain ⟨p, q, hA0, hV, rfl, hfz, hnd⟩ := hW
  have hA : DataW.TrodAll enc Tryd.prog W 0 (fun _ => true) true Tryd.f4.params.toList args.toList ds p := hA0
  have hsz' := hsz
  rw [Tryd.params4] at hA hval hsz'
  obtain ⟨v0, d0, hargs, rfl, h0⟩ := trodAll_one hA
  obtain ⟨rfl, rfl⟩ := trodVars_none hV
  obtain rfl : args = #[v0] := by cases args; simp_all
  obtain ⟨K, D, A, B, N, Lg, rfl, -⟩ := ins_open (hval 0 _ v0 rfl rfl) h0
  refine (walk K D A B N Lg W hT).mono fun e W' ⟨he, hk⟩ => ?_
  subst he
  exact ⟨_, rfl, law_post laidOut reads rfl Tryd.underlying4 rfl rfl rfl rfl hW' hk⟩

/-- A world for the witness: the settled one, the tables holding what their initialisers lay. -/
noncomputable def laidWorld (os : Os) : World :=
  { World.holding Tryd.prog os ⟨#[], #[], []⟩ with heap := ((World.holding Tryd.prog os ⟨#[], #[], []⟩).heap.modify 1 fun
      | .cells _ t frozen => .cells #[.int .u8 0, .int .u8 0, .int .i64 0, .int .u8 0, .int .u8 0, .int .i64 1, .int .u8 1, .int .u8 0, .int .i64 1, .int .u8 2, .int .u8 0, .int .i64 1, .int .u8 3, .int .u8 0, .int .i64 1, .int .u8 16, .int .u8 0, .int .i64 2, .int .u8 17, .int .u8 0, .int .i64 3, .int .u8 32, .int .u8 0, .int .i64 4, .int .u8 33, .int .u8 0, .int .i64 4, .int .u8 34, .int .u8 0, .int .i64 4, .int .u8 35, .int .u8 0, .int .i64 4, .int .u8 36, .int .u8 0, .int .i64 4, .int .u8 37, .int .u8 0, .int .i64 4, .int .u8 38, .int .u8 0, .int .i64 4, .int .u8 48, .int .u8 0, .int .i64 3, .int .u8 49, .int .u8 0, .int .i64 5, .int .u8 64, .int .u8 0, .int .i64 6, .int .u8 65, .int .u8 0, .int .i64 7, .int .u8 80, .int .u8 84, .int .i64 8, .int .u8 81, .int .u8 85, .int .i64 8, .int .u8 82, .int .u8 86, .int .i64 8, .int .u8 83, .int .u8 87, .int .i64 8, .int .u8 96, .int .u8 97, .int .i64 9, .int .u8 98, .int .u8 0, .int .i64 10, .int .u8 99, .int .u8 0, .int .i64 11] t frozen
      | o => o) }
theorem laid_met (os : Os) : laidMet Tryd.prog Rows.isaEncodesRow.laid ((laidWorld os).forCall (fun _ _ => 0) ⟨#[], #[.agg #[.int .i64 0, .int .i64 0, .int .i64 0, .int .i64 0, .int .i64 0, .bool false]], []⟩).memory :=
  laidMet_of_run' 8 (by kernel_rfl) (by kernel_rfl)
theorem readsW (os : Os) {H : Type} (enc : TypeId × Value → H) : ∃ places, DataW.whole enc Tryd.prog ((laidWorld os).forCall (fun _ _ => 0) ⟨#[], #[.agg #[.int .i64 0, .int .i64 0, .int .i64 0, .int .i64 0, .int .i64 0, .bool false]], []⟩).memory Tryd.f4.params.toList Rows.isaEncodesSpec.vars false (#[.agg #[.int .i64 0, .int .i64 0, .int .i64 0, .int .i64 0, .int .i64 0, .bool false]] : Array Value).toList 8 = some ([.agg [.lit (.int .i64 0), .lit (.int .i64 0), .lit (.int .i64 0), .lit (.int .i64 0), .lit (.int .i64 0), .lit (.bool false)]], [], places) :=
  ⟨[], by kernel_rfl⟩

theorem lifted (os : Os) (started : os.Started) (H : Type) (enc : TypeId × Value → H) (F : Stop.Interp) :
    ReturnsInHanded {} Tryd.checked os 4 .any ((OpenSpec.ofChange Rows.isaEncodesSpec).preRow enc Tryd.prog Tryd.f4 Rows.isaEncodesRow.domain false Rows.isaEncodesRow.laid) (((OpenSpec.ofChange Rows.isaEncodesSpec).at F).post enc Tryd.prog Tryd.f4 false true false false) := by
  obtain ⟨places, hx⟩ := readsW os enc
  refine returnsInHanded_of_row (C := Tryd.checked) (s := OpenSpec.ofChange Rows.isaEncodesSpec) own started (by kernel_rfl) Tryd.func4
    (witness_row_at (enc := enc) (C := Tryd.checked) false (laidWorld os) #[.agg #[.int .i64 0, .int .i64 0, .int .i64 0, .int .i64 0, .int .i64 0, .bool false]] rfl (by kernel_rfl) (by kernel_rfl) (by kernel_rfl)
      (OpenSpec.preRow_of_cond 8 hx (by kernel_rfl) (fun k hk => by cases hk) (by kernel_rfl) (laid_met os))) ?_
  intro W base args ds gs before hval hW hx1 hx2 hx3 hL hx4 hx5
  exact contract H enc W base args ds gs before hval hW (by first | exact hx1 | exact hx2 | exact hx3 | exact hx4 | exact hx5) hL

theorem said : Rows.IsaEncodesSaid :=
  OpenClaim.holds_of_cond 4 Tryd.f4 rfl rfl rfl rfl rfl rfl rfl ⟨rfl, rfl, rfl, rfl, rfl⟩ rfl rfl rfl rfl rfl (by kernel_rfl) Tryd.func4 (by kernel_rfl)
    (of_decide_eq_true (by kernel_rfl)) (by unfold Func.isWrapper; first | (rw [if_pos (by decide +kernel)]; kernel_rfl) | (rw [if_neg (by decide +kernel)]; exact ⟨rfl, rfl⟩))
    (fun os started H enc _ F => by rw [OpenClaim.pre_eq_preRow]; exact lifted os started H enc F)

theorem plain (f : FuncId) (fn : Func) (hf : Tryd.pinned.checked.prog.funcNamed "bolthole/boltholelaw.IsaEncodes" = some f) (hfn : Tryd.pinned.checked.prog.funcs[f]? = some fn) :
    false = Tryd.pinned.checked.prog.looks [] ∧ ∀ (j : Nat) t, fn.params[j]? = some t → Tryd.pinned.checked.prog.wantsStandIn t = false := by
  obtain rfl : f = 4 := Option.some.inj ((show Tryd.prog.funcNamed "bolthole/boltholelaw.IsaEncodes" = some 4 by kernel_rfl).symm.trans hf) |>.symm
  obtain rfl : fn = Tryd.f4 := (Option.some.inj (Tryd.func4.symm.trans hfn)).symm
  refine ⟨by kernel_rfl, fun j t ht => ?_⟩
  rw [Tryd.params4] at ht
  have hm := Array.mem_of_getElem? ht
  simp only [List.mem_toArray, List.mem_cons, List.mem_nil_iff, or_false] at hm
  subst hm
  exact (show Tryd.prog.wantsStandIn 23 = false by kernel_rfl)

/-- THE CARD -/
theorem card : Rows.IsaEncodesCardSaid :=
  Claim7.holds_tied_plain_at .later [] _ _ _ _ said (fun _ h => by cases h) (by kernel_rfl) (fun _ h => by cases h) isaEncodes_row_tie rfl ⟨rfl, rfl⟩ (by kernel_rfl) rfl plain (by kernel_rfl)
end Go.Proofs.YtckofmijaiahbaaDoor.isaEncodes
