/-
  slices.IndexFunc and slices.ContainsFunc at api.Edge.
  A round's key and element read again where the blocks at hand stand as they were. No program is named here.
  A row of elements of some cells each, sorted by the library's slices.SortFunc: what the slice of the call's own holds then. No program is named here.
-/
import Derived.Test.YtjnhiiidcjajbaaGreatDoorAny
import Derived.Test.YtjnhiiidcjajbaaGreatDoorMapF
import Derived.Test.YtjnhiiidcjajbaaGreatDoorRowSort
import Derived.Sort.OwnSortedInts
import Derived.Shelf.SlSortCmp.InsertionK
section
namespace Go.Proofs.YtjnhiiidcjajbaaGreatDoor
open Go.RowKit BH
set_option maxHeartbeats 1000000
set_option maxRecDepth 100000

theorem indexFunc_edge (v : Value) (n : Nat) (c : Nat → Nat → Value) (p : Nat → Bool) (g : Nat) (lb : Array Value) (w : World) (ha : Arr w v n 3 c)
    (eg : ∀ args w, (callFunc g args).run Tryz.prog w = .ok (.enter g args) w) (hp : PredIn Tryz.prog g lb n (fun i => .agg #[c i 0, c i 1, c i 2]) p w) :
    Calls Tryz.prog 79 #[v, .func (.func g) #[] lb] w fun e w' => e = .returned (.int .i64 (idxN p n 0)) ∧ Keeps w w' := by
  obtain ⟨ao, cap, rfl, h1, h2, -, h3⟩ := ha
  unfold maxLen at h2
  have HP := Lib.hid hp
  clear hp
  go_enter Tryz.func79, Tryz.ntmps79
  go_wp2
  go_loopw [5, 8] (fun _ s8 wr => ∃ k : Nat, k ≤ n ∧ s8 = .int .i64 k ∧ Keeps w wr ∧ Hid (∀ j, j < k → p j = false)) (fun _ s8 _ => n - (intOf s8).toNat)
  case atStart => exact ⟨0, Nat.zero_le _, rfl, Keeps.refl _, fun j hj => absurd hj (Nat.not_lt_zero _)⟩
  case round =>
    obtain ⟨k, hk, rfl, hkeep, hno⟩ := hrel
    by_cases hlt : k < n
    · obtain ⟨b, off, rfl, hc⟩ := h3 (by omega)
      have c0 : wr.cell? ⟨b, off + k * 3, none⟩ = some (c k 0) := hkeep.cell (hc k 0 hlt (by omega))
      have c1 : wr.cell? ⟨b, off + k * 3 + 1, none⟩ = some (c k 1) := hkeep.cell (hc k 1 hlt (by omega))
      have c2 : wr.cell? ⟨b, off + k * 3 + 2, none⟩ = some (c k 2) := hkeep.cell (hc k 2 hlt (by omega))
      have hcall := HP.out wr k hlt hkeep
      clear hc h3 HP
      simp only [] at hcall
      generalize c k 0 = y0 at c0 hcall
      generalize c k 1 = y1 at c1 hcall
      generalize c k 2 = y2 at c2 hcall
      cases hq : p k with
      | true =>
        rw [hq] at hcall
        have HQ := Lib.hid hq
        clear hq
        go_wp2_with (go_at_fn g; refine hcall.mono ?_; rintro e w' ⟨rfl, hk1⟩)
        go_ret
        refine ⟨?_, hkeep.trans hk1⟩
        rw [idxN_hit (i := 0) (n := n) (k := k) (by omega) (by omega) HQ.out (fun j _ h => hno.out j h)]
        rfl
      | false =>
        rw [hq] at hcall
        have HQ := Lib.hid hq
        clear hq
        go_wp2_with (go_at_fn g; refine hcall.mono ?_; rintro e w' ⟨rfl, hk1⟩)
        go_roundw
        case rel =>
          refine ⟨k + 1, by omega, by go_num, hkeep.trans hk1, fun j hj => ?_⟩
          by_cases e : j = k
          · subst e; exact HQ.out
          · exact hno.out j (by omega)
        case measure => simp [intOf]; omega
    · clear h3 HP
      go_wp2
      go_ret
      obtain rfl : k = n := by omega
      refine ⟨?_, hkeep⟩
      rw [idxN_miss (fun j _ h => hno.out j (by omega))]
      rfl
theorem containsFunc_edge (v : Value) (n : Nat) (c : Nat → Nat → Value) (p : Nat → Bool) (g : Nat) (lb : Array Value) (w : World) (ha : Arr w v n 3 c)
    (eg : ∀ args w, (callFunc g args).run Tryz.prog w = .ok (.enter g args) w) (hp : PredIn Tryz.prog g lb n (fun i => .agg #[c i 0, c i 1, c i 2]) p w) :
    Calls Tryz.prog 30 #[v, .func (.func g) #[] lb] w fun e w' => e = .returned (.bool (anyN p n)) ∧ Keeps w w' := by
  have HP := Lib.hid hp
  have HA := Lib.hid ha
  have EG := Lib.hid eg
  have HN := Lib.hid (idxN_any p n)
  clear hp ha eg
  go_enter Tryz.func30, Tryz.ntmps30
  go_wp2_with fail
  refine (indexFunc_edge v n c p g lb _ HA.out EG.out HP.out).mono ?_
  rintro e w' ⟨rfl, hk1⟩
  generalize idxN p n 0 = r at HN
  go_wp2
  go_ret
  exact ⟨by rw [← HN.out]; rfl, hk1⟩
end Go.Proofs.YtjnhiiidcjajbaaGreatDoor
end
section
namespace Go.Proofs.YtjnhiiidcjajbaaGreatDoor.BH
open Go.RowKit Go.Maps Go.WideShapes
set_option maxRecDepth 100000
theorem entry_keep {P : Program} {w W : World} {r : Nat} {v : Value} (h : (Instr.entry (.pointer (some ⟨r, 0, none⟩))).run P w = .ok v w) (hh : ∀ i, i < w.heap.size → W.heap[i]? = w.heap[i]?) :
    (Instr.entry (.pointer (some ⟨r, 0, none⟩))).run P W = .ok v W := by
  simp only [Instr.entry, getObj, Sem.run_bind, Sem.run, Result.andThen] at h ⊢
  cases hr : w.heap[r]? with
  | none => rw [hr] at h; cases h
  | some o =>
    have hrl : r < w.heap.size := (Array.getElem?_eq_some_iff.1 hr).1
    rw [hh r hrl, hr]
    rw [hr] at h
    cases o with
    | mapIter m n seen st =>
      cases m with
      | none => simp at h
      | some m =>
        dsimp only at h ⊢
        cases hs : seen.back? with
        | none => rw [hs] at h; simp at h
        | some s =>
          rw [hs] at h
          simp only [Sem.run_bind, Sem.run, Result.andThen] at h ⊢
          cases hm : w.heap[m]? with
          | none => rw [hm] at h; cases h
          | some o2 =>
            have hml : m < w.heap.size := (Array.getElem?_eq_some_iff.1 hm).1
            rw [hh m hml, hm]
            rw [hm] at h
            cases o2 with
            | map es ck =>
              dsimp only at h ⊢
              by_cases hc : (ck != st) = true
              · rw [if_pos hc] at h
                simp only [unsupported, Sem.run_bind, Sem.run, Result.andThen] at h
                cases h
              · rw [if_neg hc] at h ⊢
                cases hf : es.find? (fun x => x.born == s) with
                | none => rw [hf] at h; simp only [unsupported, Sem.run] at h; cases h
                | some e =>
                  rw [hf] at h
                  have h2 : Result.ok (Value.tuple #[e.key, e.val]) w = Result.ok v w := h
                  injection h2 with h2
                  subst h2
                  rfl
            | _ => simp at h
    | _ => simp at h
end Go.Proofs.YtjnhiiidcjajbaaGreatDoor.BH
end
section
namespace Go.Proofs.YtjnhiiidcjajbaaGreatDoor.BH
open Go.RowKit Go.Sort
set_option maxRecDepth 100000
variable {γ : Type} [Inhabited γ]
section
variable {w0 w : World} {g : Nat} {e : TypeId} {k : Nat} {f : γ → List Value} {rest : Array Value} {d : Array γ}
theorem SRow.holdsK (h : SRow w0 g e k f rest d w) : HoldsK f k w g 0 d := fun j hj => by
  rw [Nat.zero_add]
  refine ⟨h.blk.cell ?_, h.blk.thawed j⟩
  rw [Array.getElem?_append_left hj, Array.getElem?_eq_getElem hj, getElem!_pos (flatK f k d) j hj]
  rfl
theorem SRow.sorted (h : SRow w0 g e k f rest d w) {d' : Array γ} (hd : d'.size = d.size) (n : Nat) (os : Array Obj) : SRow w0 g e k f rest d' (sortWorldK f k w g 0 n d' os) := by
  have hF : (flatK f k d').size = (flatK f k d).size := by rw [size_flatK, size_flatK, hd]
  have hg := h.glt
  refine ⟨grown_trans h.gr ⟨rfl, rfl, rfl, by simp [sortWorldK, putRowK], fun q hq hne => ?_⟩, h.lt, ?_, h.fk⟩
  · unfold sortWorldK putRowK
    rw [heap_grow_old _ _ (by simpa using hq)]
    have : g ≠ q := fun e => hne (by rw [e])
    simp [putRow, mapBlock, Sort.ahead, Array.getElem?_modify, this]
  · have hb : w.heap[g]? = some (.cells (flatK f k d ++ rest) e) := h.blk
    show (sortWorldK f k w g 0 n d' os).heap[g]? = _
    unfold sortWorldK putRowK
    rw [heap_grow_old _ _ (by simpa using hg)]
    have e1 : putCells id 0 (flatK f k d') (flatK f k d ++ rest) = flatK f k d' ++ rest := by
      apply Array.ext
      · simp [putCells, hd]
      · intro j h1 h2
        by_cases hj : j < (flatK f k d').size
        · rw [Array.getElem_append_left hj]
          simp only [putCells, Array.getElem_mapIdx, Nat.zero_le, Nat.zero_add, hj, and_self, if_true, Nat.sub_zero]
          exact getElem!_pos _ _ _
        · rw [Array.getElem_append_right (by omega)]
          simp only [putCells, Array.getElem_mapIdx, Nat.zero_le, Nat.zero_add, hj, and_false, if_false]
          rw [Array.getElem_append_right (by omega)]
          simp only [hF]
    simp [putRow, mapBlock, Sort.ahead, Array.getElem?_modify, hb, onCells, e1]
end
end Go.Proofs.YtjnhiiidcjajbaaGreatDoor.BH
end
