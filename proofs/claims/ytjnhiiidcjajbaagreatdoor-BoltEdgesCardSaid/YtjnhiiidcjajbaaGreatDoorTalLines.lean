/-
  Lines of a tally in plain terms: what tally.Read and the document's EdgesOf make of a text.
-/
import Derived.Test.YtjnhiiidcjajbaaGreatDoorTalNum
import Derived.Lib.Split
namespace Go.Proofs.YtjnhiiidcjajbaaGreatDoor
open Go.Lib BH
set_option maxRecDepth 100000
/-- pieces between bytes c -/
def spl (c : UInt8) : List UInt8 → List (List UInt8)
  | [] => [[]]
  | x :: r => if x = c then [] :: spl c r else (x :: (spl c r).headD []) :: (spl c r).tail
/-- the same, as the document goes: pieces so far, the piece that is open, the rest -/
def splA (c : UInt8) (ps : List (List UInt8)) (cur : List UInt8) : List UInt8 → List (List UInt8)
  | [] => ps ++ [cur]
  | x :: r => if x = c then splA c (ps ++ [cur]) [] r else splA c ps (cur ++ [x]) r
theorem spl_ne (c : UInt8) (l : List UInt8) : spl c l ≠ [] := by
  cases l with
  | nil => simp [spl]
  | cons x r => unfold spl; split <;> simp
theorem splA_is (c : UInt8) : ∀ (l : List UInt8) (ps : List (List UInt8)) (cur : List UInt8), splA c ps cur l = ps ++ (cur ++ (spl c l).headD []) :: (spl c l).tail
  | [], ps, cur => by simp [splA, spl]
  | x :: r, ps, cur => by
    unfold splA spl
    by_cases h : x = c
    · rw [if_pos h, if_pos h, splA_is c r]
      obtain ⟨a, b, e⟩ := List.exists_cons_of_ne_nil (spl_ne c r)
      rw [e]
      simp
    · rw [if_neg h, if_neg h, splA_is c r]
      simp
theorem splA_spl (c : UInt8) (l : List UInt8) : splA c [] [] l = spl c l := by
  rw [splA_is]
  obtain ⟨a, b, e⟩ := List.exists_cons_of_ne_nil (spl_ne c l)
  rw [e]
  simp
/-- how far to the first c -/
def toC (c : UInt8) : List UInt8 → Nat
  | [] => 0
  | x :: r => if x = c then 0 else toC c r + 1
theorem toC_le (c : UInt8) : ∀ l, toC c l ≤ l.length
  | [] => Nat.le_refl _
  | x :: r => by
    unfold toC
    split
    · simp
    · have := toC_le c r; simp; omega
theorem index_one (c : UInt8) : ∀ l : List UInt8, index l [c] = if toC c l < l.length then (toC c l : Int) else -1
  | [] => by simp [index, toC]
  | x :: r => by
    have ih := index_one c r
    by_cases h : x = c
    · subst h
      have e1 : toC x (x :: r) = 0 := by simp [toC]
      have e2 : index (x :: r) [x] = 0 := by simp [index]
      rw [e1, e2, if_pos (by simp)]
      rfl
    · have hc : ¬ c = x := fun e => h e.symm
      have e1 : toC c (x :: r) = toC c r + 1 := by simp [toC, h]
      have e2 : index (x :: r) [c] = if index r [c] == -1 then -1 else index r [c] + 1 := by simp [index, hc]
      rw [e1, e2, List.length_cons]
      by_cases q : toC c r < r.length
      · rw [if_pos q] at ih
        have e3 : (index r [c] == -1) = false := by rw [ih]; simp
        rw [e3, ih, if_neg Bool.false_ne_true, if_pos (by omega)]
        omega
      · rw [if_neg q] at ih
        have e3 : (index r [c] == -1) = true := by rw [ih]; simp
        rw [e3, if_pos rfl, if_neg (by omega)]
theorem spl_toC (c : UInt8) : ∀ l : List UInt8, spl c l = if toC c l < l.length then l.take (toC c l) :: spl c (l.drop (toC c l + 1)) else [l]
  | [] => by simp [spl, toC]
  | x :: r => by
    have ih := spl_toC c r
    unfold toC
    by_cases h : x = c
    · rw [if_pos h]
      conv => lhs; unfold spl
      rw [if_pos h, if_pos (by simp)]
      simp
    · rw [if_neg h]
      conv => lhs; unfold spl
      rw [if_neg h, ih]
      by_cases q : toC c r < r.length
      · rw [if_pos q, if_pos (by simp; omega)]
        simp
      · rw [if_neg q, if_neg (by simp; omega)]
        simp
theorem splitK_spl (c : UInt8) : ∀ (k : Nat) (l : List UInt8), count l [c] ≤ k → splitK [c] 0 k l = spl c l
  | 0, l, h => by
    rw [spl_toC]
    by_cases q : toC c l < l.length
    · have hi := index_one c l
      rw [if_pos q] at hi
      rw [count_hit (by simp) hi] at h
      omega
    · rw [if_neg q]; rfl
  | k + 1, l, h => by
    have hi := index_one c l
    unfold splitK
    rw [spl_toC]
    by_cases q : toC c l < l.length
    · rw [if_pos q] at hi
      rw [count_hit (by simp) hi] at h
      rw [hi, if_pos q, if_neg (by simp), Int.toNat_natCast, Nat.add_zero, splitK_spl c k _ (by simp at h ⊢; omega)]
      rfl
    · rw [if_neg q] at hi
      rw [hi, if_neg q]
      rfl
theorem split_spl (c : UInt8) (l : List UInt8) : split l [c] = spl c l := splitK_spl c _ l (Nat.le_refl _)
theorem cut_one (c : UInt8) (l : List UInt8) : cut l [c] = if toC c l < l.length then (l.take (toC c l), l.drop (toC c l + 1), true) else (l, [], false) := by
  unfold cut
  rw [index_one]
  by_cases q : toC c l < l.length
  · rw [if_pos q, if_pos q, if_pos (by omega), Int.toNat_natCast]
    rfl
  · rw [if_neg q, if_neg q, if_neg (by omega)]
/-- edges of lines: an error number, and what is read -/
def readS : Nat → List Ed → List UInt8 → Int × List Ed
  | 0, acc, _ => (0, acc)
  | f + 1, acc, s =>
    if s = [] then (0, acc)
    else if ¬ toC 10 s < s.length then (5, [])
    else if (spl 32 (s.take (toC 10 s))).length ≠ 3 ∨ countR (nth (spl 32 (s.take (toC 10 s))) 0) < 0 ∨ countR (nth (spl 32 (s.take (toC 10 s))) 1) < 0 ∨ countR (nth (spl 32 (s.take (toC 10 s))) 2) < 0 then (4, [])
    else readS f (acc ++ [⟨countR (nth (spl 32 (s.take (toC 10 s))) 0), countR (nth (spl 32 (s.take (toC 10 s))) 1), countR (nth (spl 32 (s.take (toC 10 s))) 2)⟩]) (s.drop (toC 10 s + 1))
/-- what tally.Read answers -/
def tallyS (s : List UInt8) : Int × List Ed := if s.length > 4000 then (1, []) else readS (s.length + 1) [] s
theorem spl_len (c : UInt8) : ∀ l, (spl c l).length ≤ l.length + 1
  | [] => by simp [spl]
  | x :: r => by
    have := spl_len c r
    unfold spl
    split <;> simp <;> omega
theorem spl_mem (c : UInt8) : ∀ l p, p ∈ spl c l → p.length ≤ l.length
  | [], p, h => by simp [spl] at h; subst h; simp
  | x :: r, p, h => by
    have ih := spl_mem c r
    unfold spl at h
    split at h
    · rcases List.mem_cons.1 h with rfl | h
      · simp
      · have := ih p h; simp; omega
    · rcases List.mem_cons.1 h with rfl | h
      · obtain ⟨a, b, e⟩ := List.exists_cons_of_ne_nil (spl_ne c r)
        have := ih a (by rw [e]; simp)
        rw [e]
        simp
        omega
      · have := ih p (List.mem_of_mem_tail h); simp; omega
end Go.Proofs.YtjnhiiidcjajbaaGreatDoor
