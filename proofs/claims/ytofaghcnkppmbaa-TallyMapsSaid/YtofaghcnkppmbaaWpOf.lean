/-
  An operation by itself, out of a law on a list of operations. No program is named here.
-/
import Derived.Test.YtofaghcnkppmbaaRegTail
import Derived.Test.YtofaghcnkppmbaaOwn
namespace Go
variable {P : Program} {Q : Exit → Act → World → Prop}
/-- K behind the normal end; no other end -/
def OnlyN (K : Act → World → Prop) : Exit → Act → World → Prop
  | .normal, a, w => K a w
  | _, _, _ => False
theorem upon_only {o : Oper} {a : Act} {K : Act → World → Prop} : ∀ {r : Result Next}, o.upon P a K (OnlyN K) r → o.upon P a K Q r
  | .ok (.value _) _, h => h
  | .ok .skip _, h => h
  | .ok (.defer _) _, h => h
  | .ok (.enter _ _) _, h => Calls.mono h fun e w'' he => by
      cases e with
      | returned v => exact he
      | panicked c => exact (he : False).elim
      | outgrown =>
        obtain ⟨_, _, q⟩ := (he : LetsOut (OnlyN K))
        exact (q : False).elim
  | .ok (.row _ _) _, h => Rows.mono h fun _ _ he => he
  | .halt (.panic _) _, h => (h : False).elim
  | .halt .blocked _, h => h.elim
  | .halt .waiting _, h => h.elim
  | .halt (.unsupported _) _, h => h.elim
theorem wp_of_list {o : Oper} {a : Act} {w : World} {ops : Array Oper} {K : Act → World → Prop} (hg : o.guard = none) (h : wpList P ops (OnlyN K) [o] a w) : o.wp P a w K Q := by
  have hw : Region.wanted o (yielded ops a.tmps) = true := by simp [Region.wanted, hg]
  simp only [wpList, hw, if_true] at h
  rcases h with h | ⟨_, h⟩
  · exact upon_only h
  · obtain ⟨_, _, q⟩ := h
    exact (q : False).elim
namespace Proofs.Ytofaghcnkppmbaa.BH
open Go.RowKit
/-- 'append([]T(nil), l...)' by itself -/
theorem wp_copy_nil {K : Act → World → Prop} {o : Oper} {a : Act} {w : World} (hgd : o.guard = none) (x : Operand) (t : TypeId)
    (ho : o.op = .call { callee := .builtin .append, args := #[.const (.slice none 0 0), x], argTypes := #[t, t] })
    {e : TypeId} {z : Value} {k bytes : Nat} (ht : P.underlying t = some (.slice e)) (hi : (P.info? e).map (fun i => (i.zero, i.size, i.bytes)) = some (some z, k, bytes)) (hzs : z.cells.size = k) (hk : 0 < k)
    {v : Value} {n : Nat} {c : Nat → Nat → Value} (hx : a.eval x = v) (harr : Arr w v n k c) (h1 : ∀ i j, i < n → j < k → (c i j).oneCell' = true) (hbytes : n * bytes ≤ 140737488355328)
    (h : ∀ v' w', Arr w' v' n k c → NewAt w.heap.size v' → Keeps w w' → K (a.put o.dst v') w') : o.wp P a w K Q :=
  wp_of_list (ops := #[]) hgd (wpList_copy_nil hgd x t ho ht hi hzs hk hx harr h1 hbytes fun v' w' h1 h2 h3 => h v' w' h1 h2 h3)
end Proofs.Ytofaghcnkppmbaa.BH
end Go
