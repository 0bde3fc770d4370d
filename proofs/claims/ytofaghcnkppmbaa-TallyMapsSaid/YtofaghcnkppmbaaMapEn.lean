/-
  A round's key and element read again where the blocks at hand stand as they were. No program is named here.
-/
import Derived.Test.YtofaghcnkppmbaaMapF
namespace Go.Proofs.Ytofaghcnkppmbaa.BH
open Go.RowKit Go.Maps Go.WideShapes
set_option maxRecDepth 100000
theorem entry_keep {P : Program} {w W : World} {r : Nat} {v : Value} (h : (Instr.entry (.pointer (some ⟨r, 0, none⟩))).run P w = .ok v w) (hh : ∀ i, i < w.heap.size → W.heap[i]? = w.heap[i]?) :
    (Instr.entry (.pointer (some ⟨r, 0, none⟩))).run P W = .ok v W := by
  simp only [Instr.entry, getObj, Sem.run_bind, Sem.run, Result.andThen] at h ⊢
  cases hr : w.heap[r]? with
  | none => rw [hr] at h; cases h
  | some o =>
    have hrl : r < w.heap.size := (Array.getElem?_eq_some_iff.1 hr).1
    rw [hh r hrl, hr]
    rw [hr] at h
    cases o with
    | mapIter m n seen st =>
      cases m with
      | none => simp at h
      | some m =>
        dsimp only at h ⊢
        cases hs : seen.back? with
        | none => rw [hs] at h; simp at h
        | some s =>
          rw [hs] at h
          simp only [Sem.run_bind, Sem.run, Result.andThen] at h ⊢
          cases hm : w.heap[m]? with
          | none => rw [hm] at h; cases h
          | some o2 =>
            have hml : m < w.heap.size := (Array.getElem?_eq_some_iff.1 hm).1
            rw [hh m hml, hm]
            rw [hm] at h
            cases o2 with
            | map es ck =>
              dsimp only at h ⊢
              by_cases hc : (ck != st) = true
              · rw [if_pos hc] at h
                simp only [unsupported, Sem.run_bind, Sem.run, Result.andThen] at h
                cases h
              · rw [if_neg hc] at h ⊢
                cases hf : es.find? (fun x => x.born == s) with
                | none => rw [hf] at h; simp only [unsupported, Sem.run] at h; cases h
                | some e =>
                  rw [hf] at h
                  have h2 : Result.ok (Value.tuple #[e.key, e.val]) w = Result.ok v w := h
                  injection h2 with h2
                  subst h2
                  rfl
            | _ => simp at h
    | _ => simp at h
end Go.Proofs.Ytofaghcnkppmbaa.BH
