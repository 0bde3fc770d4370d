/-
  What the bytes of an image say: the parse, in plain Lean. A state is what is left of the bytes, or none: bytes were missing.
-/
import Derived.Test.YtjnhiiidcjajbaaGreatDoorImgGood
namespace Go.Proofs.YtjnhiiidcjajbaaGreatDoor
open Go.RowKit BH

abbrev PS := Option (List UInt8)
/-- so many bytes -/
def tk (n : Int) : PS → List UInt8 × PS
  | none => ([], none)
  | some l => if n ≤ l.length then (l.take n.toNat, some (l.drop n.toNat)) else ([], none)
/-- bytes as a number, in 64 bits -/
def val (l : List UInt8) : Int := l.foldl (fun x b => wrap64 (x * 256 + (b.toNat : Int))) 0
/-- a number of k bytes -/
def nm (k : Int) (p : PS) : Int × PS := (val (tk k p).1, (tk k p).2)
def str (l : List UInt8) : ByteArray := ⟨l.toArray⟩
/-- so many functions -/
def fnP : Nat → Int → PS → List Fu → List Fu × PS
  | 0, _, p, acc => (acc, p)
  | _ + 1, _, none, acc => (acc, none)
  | k + 1, a, some l, acc => fnP k (a + (nm 2 (tk (nm 1 (some l)).1 (nm 1 (some l)).2).2).1) (nm 2 (tk (nm 1 (some l)).1 (nm 1 (some l)).2).2).2 (acc ++ [⟨str (tk (nm 1 (some l)).1 (nm 1 (some l)).2).1, a, (nm 2 (tk (nm 1 (some l)).1 (nm 1 (some l)).2).2).1⟩])
/-- so many numbers of c bytes -/
def nmP (c : Int) : Nat → PS → List Int → List Int × PS
  | 0, p, acc => (acc, p)
  | _ + 1, none, acc => (acc, none)
  | k + 1, some l, acc => nmP c k (nm c (some l)).2 (acc ++ [(nm c (some l)).1])
/-- so many tables -/
def tabP : Nat → PS → List (List Int) → List (List Int) × PS
  | 0, p, acc => (acc, p)
  | _ + 1, none, acc => (acc, none)
  | k + 1, some l, acc => tabP k (nmP 2 (nm 1 (some l)).1.toNat (nm 1 (some l)).2 []).2 (acc ++ [(nmP 2 (nm 1 (some l)).1.toNat (nm 1 (some l)).2 []).1])
/-- so many lines -/
def lnP : Nat → PS → List Ln → List Ln × PS
  | 0, p, acc => (acc, p)
  | _ + 1, none, acc => (acc, none)
  | k + 1, some l, acc => lnP k (nm 2 (nm 2 (some l)).2).2 (acc ++ [⟨(nm 2 (some l)).1, (nm 2 (nm 2 (some l)).2).1⟩])

def dTextN (l : List UInt8) := nm 2 (some (l.drop 4))
def dText (l : List UInt8) := tk (dTextN l).1 (dTextN l).2
def dFunN (l : List UInt8) := nm 1 (dText l).2
def dFuns (l : List UInt8) := fnP (dFunN l).1.toNat 0 (dFunN l).2 []
def dEntry (l : List UInt8) := nm 1 (dFuns l).2
def dTabN (l : List UInt8) := nm 1 (dEntry l).2
def dTabs (l : List UInt8) := tabP (dTabN l).1.toNat (dTabN l).2 []
def dDataN (l : List UInt8) := nm 1 (dTabs l).2
def dData (l : List UInt8) := nmP 8 (dDataN l).1.toNat (dDataN l).2 []
def dLineN (l : List UInt8) := nm 2 (dData l).2
def dLines (l : List UInt8) := lnP (dLineN l).1.toNat (dLineN l).2 []
/-- the image that the bytes tell -/
def dImg (l : List UInt8) : Img := ⟨(dText l).1, (dFuns l).1, (dTabs l).1, (dData l).1, (dLines l).1, (dEntry l).1⟩
def zImg : Img := ⟨[], [], [], [], [], 0⟩
def sign : List UInt8 := [98, 104, 49, 10]
/-- the answer: an image and a number -/
def decImg (l : List UInt8) : Img × Int :=
  if 100000 < l.length then (zImg, 1) else
  if l.take 4 ≠ sign.take l.length then (zImg, 4) else
  if l.length < 4 then (zImg, 5) else
  match (dLines l).2 with
  | none => (zImg, 5)
  | some r => if 0 < r.length then (zImg, 4) else if imgFault (dImg l) = 0 then (dImg l, 0) else (zImg, imgFault (dImg l))

theorem tk_none (n : Int) : tk n none = ([], none) := rfl
theorem tk_ok {n : Int} {l : List UInt8} (h : n ≤ l.length) : tk n (some l) = (l.take n.toNat, some (l.drop n.toNat)) := if_pos h
theorem tk_few {n : Int} {l : List UInt8} (h : (l.length : Int) < n) : tk n (some l) = ([], none) := if_neg (by omega)
theorem tk_len (n : Int) (p : PS) (h : 0 ≤ n) : ((tk n p).1.length : Int) ≤ n := by
  cases p with
  | none => simpa [tk] using h
  | some l =>
    rcases Int.lt_or_le (l.length : Int) n with hn | hn
    · rw [tk_few hn]; simpa using h
    · rw [tk_ok hn]; simp only [List.length_take]; omega
/-- what is left is an end of the old -/
def Left (l : List UInt8) (p : PS) : Prop := ∀ r, p = some r → ∃ n, n ≤ l.length ∧ r = l.drop n
theorem left_self (l : List UInt8) : Left l (some l) := fun r h => ⟨0, Nat.zero_le _, by cases h; rfl⟩
theorem left_tk {l : List UInt8} {p : PS} (h : Left l p) (n : Int) : Left l (tk n p).2 := by
  cases p with
  | none => exact fun r h => by cases h
  | some q =>
    obtain ⟨m, hm, rfl⟩ := h q rfl
    rcases Int.lt_or_le ((l.drop m).length : Int) n with hn | hn
    · rw [tk_few hn]; exact fun r h => by cases h
    · rw [tk_ok hn]
      intro r hr
      cases hr
      rw [List.length_drop] at hn
      exact ⟨m + n.toNat, by omega, by rw [List.drop_drop]⟩
theorem left_len {l r : List UInt8} (h : Left l (some r)) : r.length ≤ l.length := by
  obtain ⟨m, hm, rfl⟩ := h r rfl
  simp

theorem byte_bd (b : UInt8) : (b.toNat : Int) < 256 := by have := b.toNat_lt; omega
theorem val_snoc (l : List UInt8) (b : UInt8) : val (l ++ [b]) = wrap64 (val l * 256 + b.toNat) := by simp [val]
theorem val_bd : ∀ k : Nat, k ≤ 7 → ∀ l : List UInt8, l.length ≤ k → 0 ≤ val l ∧ val l < 256 ^ k := by
  intro k
  induction k with
  | zero => intro _ l hl; have : l = [] := by cases l; rfl; simp at hl
            subst this; simp [val]
  | succ k ih =>
    intro hk l hl
    rcases List.eq_nil_or_concat l with rfl | ⟨r, b, rfl⟩
    · have : (0 : Int) < 256 ^ (k + 1) := Int.pow_pos (by omega)
      simpa [val] using this
    · have h := ih (by omega) r (by simp at hl; omega)
      have hb := byte_bd b
      rw [List.concat_eq_append, val_snoc]
      have h7 : (256 : Int) ^ (k + 1) ≤ 256 ^ 7 := by
        have : ∀ j : Nat, j ≤ 7 → (256 : Int) ^ j ≤ 256 ^ 7 := by decide
        exact this _ hk
      have e7 : (256 : Int) ^ 7 = 72057594037927936 := by decide
      have e : (256 : Int) ^ (k + 1) = 256 ^ k * 256 := Int.pow_succ _ _
      rw [e] at h7 ⊢
      rw [e7] at h7
      generalize (256 : Int) ^ k = P at *
      have hw : wrap64 (val r * 256 + (b.toNat : Int)) = val r * 256 + b.toNat := by unfold wrap64; omega
      rw [hw]
      omega
theorem nm1_bd (p : PS) : 0 ≤ (nm 1 p).1 ∧ (nm 1 p).1 ≤ 255 := by
  have h := tk_len 1 p (by omega)
  have := val_bd 1 (by omega) (tk 1 p).1 (by omega)
  unfold nm
  omega
theorem nm2_bd (p : PS) : 0 ≤ (nm 2 p).1 ∧ (nm 2 p).1 ≤ 65535 := by
  have h := tk_len 2 p (by omega)
  have := val_bd 2 (by omega) (tk 2 p).1 (by omega)
  unfold nm
  have e : (256 : Int) ^ 2 = 65536 := by decide
  omega
end Go.Proofs.YtjnhiiidcjajbaaGreatDoor
