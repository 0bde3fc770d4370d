/-
  A region that draws its order, all of whose first operations are waited for by the others, which stand in a row: the first ones in whatever order under a condition, then the rest as a list. No program is named here.
-/
import Derived.Test.YtjnhiiidcjajbaaGreatDoorRegTail
namespace Go
variable {P : Program} {Q : Exit → Act → World → Prop} {S : World → Prop}
theorem wp_region_head {id : Nat} {a : Act} {w : World} {l : List Oper} (n : Nat) (hm : P.follows .mixedOrders = true)
    (hb : backB .any l.toArray n = true) (hs : sinkX .any l.toArray n (n + 1) = true) (hc : Region.chainB .any l.toArray n = true) (hn : n < l.toArray.size)
    (hseq : Region.seqB .any l.toArray (l.drop n).length n (Array.replicate n true ++ Array.replicate (l.toArray.size - n) false) = true) (hS : S w.drew)
    (h : S w.drew → wpAnyH P .any (l.take n).toArray (TailQ P l.toArray Q (l.drop n)) S n (Array.replicate n false) a w.drew) : (Code.region id l.toArray true).wp P Q a w := by
  refine wp_region_any hm ?_
  have h0 : HT .any l n (Array.replicate l.toArray.size false) (Array.replicate n false) :=
    ⟨⟨by simp, fun j oj _ hl => (by rw [getD_replicate_false] at hl; cases hl), fun t _ ht => getD_in (by simpa using ht) (getD_replicate_false _ _)⟩, by simp, fun i hi => by
      have h1 : i < l.length := by have := hn; simp at this; omega
      rw [Array.getElem?_eq_getElem (by simpa using h1), Array.getElem?_eq_getElem (by simpa using hi)]
      simp⟩
  have H := wpAny_of_headH (P := P) (Q := Q) (S := S) hb hs hc hn hseq n _ _ a w.drew h0 (fun q => absurd q (by omega)) (h hS)
  have e : n + (l.drop n).length = l.toArray.size := by simp only [List.length_drop, List.size_toArray] at *; omega
  rw [← e]
  rw [← e] at H
  exact H
end Go
