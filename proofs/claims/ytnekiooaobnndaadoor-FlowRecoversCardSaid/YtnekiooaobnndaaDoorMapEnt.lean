/-
 What is wrong with an image: the fault that image.Check and the document's ImageFault tell, as a plain function of the image.
 'm[x], .. = c, ..': an entry is found or made first, and stored into later: a map as a function. No program is named here.
-/
import Derived.Test.YtnekiooaobnndaaDoorAny
import Derived.Test.YtnekiooaobnndaaDoorImgOpen
section
set_option linter.all false
namespace Go.Proofs.YtnekiooaobnndaaDoor
open Go.RowKit BH

/-- the first fault from place i on (n places); e: what comes behind them all -/
def scan (g : Nat → Int) (e : Int) : Nat → Nat → Int
 | 0, _ => e
 | n + 1, i => if g i = 0 then scan g e n (i + 1) else g i
theorem scan_step {g : Nat → Int} {e R : Int} {N k : Nat} (hk : k < N) (h0 : g k = 0) (h : scan g e (N - k) k = R) : scan g e (N - (k + 1)) (k + 1) = R := by
 rw [show N - k = (N - (k + 1)) + 1 by omega, scan, if_pos h0] at h
 exact h
theorem scan_stop {g : Nat → Int} {e R : Int} {N k : Nat} (hk : k < N) (h0 : g k ≠ 0) (h : scan g e (N - k) k = R) : R = g k := by
 rw [show N - k = (N - (k + 1)) + 1 by omega, scan, if_neg h0] at h
 exact h.symm
theorem scan_end {g : Nat → Int} {e R : Int} {N k : Nat} (hk : k = N) (h : scan g e (N - k) k = R) : R = e := by
 rw [hk, Nat.sub_self] at h
 exact h.symm
/-- the fault of what is scanned, and of what comes behind -/
theorem scan_split {g : Nat → Int} {e : Int} : ∀ {n i : Nat}, scan g e n i = if scan g 0 n i = 0 then e else scan g 0 n i
 | 0, _ => by simp [scan]
 | n + 1, i => by
  unfold scan
  by_cases h : g i = 0
  ·rw [if_pos h, if_pos h]; exact scan_split
  ·rw [if_neg h, if_neg h, if_neg h]

/-- a byte that a name may have -/
def chOk (c : Int) : Bool := decide ((97 ≤ c ∧ c ≤ 122) ∨ (48 ≤ c ∧ c ≤ 57) ∨ c = 95 ∨ c = 46)
def nmByte (s : ByteArray) (i : Nat) : Int := ((nth s.data.toList i).toNat : Int)
def nameOk (s : ByteArray) : Bool := decide (1 ≤ s.size ∧ s.size ≤ 16) && !(anyN (fun i => !chOk (nmByte s i)) s.size)

def fname (m : Img) (i : Nat) : ByteArray := (nth m.Funcs i).Name
/-- how many bytes the first k functions have -/
def sumF (m : Img) : Nat → Int
 | 0 => 0
 | k + 1 => sumF m k + (nth m.Funcs k).Size
def sameName (m : Img) (i j : Nat) : Bool := (fname m j).toList == (fname m i).toList
def funBad (m : Img) (i : Nat) : Int :=
 if nameOk (fname m i) = false then 4
 else if anyN (sameName m i) i = true then 7
 else if (nth m.Funcs i).Start ≠ sumF m i ∨ (nth m.Funcs i).Size < 1 ∨ (m.Text.length : Int) - sumF m i < (nth m.Funcs i).Size then 8
 else 0
def outside (m : Img) (t : List Int) (j : Nat) : Bool := decide (nth t j < 0 ∨ (m.Text.length : Int) ≤ nth t j)
def tabBad (m : Img) (i : Nat) : Int :=
 if 20 < (nth m.Tables i).length then 1
 else if anyN (outside m (nth m.Tables i)) (nth m.Tables i).length = true then 2
 else 0
def dataOut (l : List Int) (j : Nat) : Bool := decide (nth l j < -1099511627776 ∨ 1099511627776 < nth l j)
def lastAt (l : List Ln) : Nat → Int
 | 0 => -1
 | k + 1 => (nth l k).At
def lineBad (m : Img) (i : Nat) : Int :=
 if (nth m.Lines i).N < 0 ∨ 10000 < (nth m.Lines i).N then 2
 else if (nth m.Lines i).At ≤ lastAt m.Lines i ∨ (m.Text.length : Int) ≤ (nth m.Lines i).At then 8
 else 0
def linesFault (m : Img) : Int := if 4000 < m.Lines.length then 1 else scan (lineBad m) 0 m.Lines.length 0
def dataFault (m : Img) : Int := if anyN (dataOut m.Data) m.Data.length = true then 2 else linesFault m
def tabsFault (m : Img) : Int := scan (tabBad m) (dataFault m) m.Tables.length 0
def entryFault (m : Img) : Int :=
 if m.Entry < 0 ∨ (m.Funcs.length : Int) ≤ m.Entry then 6
 else if 20 < m.Tables.length ∨ 64 < m.Data.length then 1
 else tabsFault m
def endFault (m : Img) (e : Int) : Int := if sumF m m.Funcs.length ≠ (m.Text.length : Int) then 8 else e
def funcsFault (m : Img) : Int := if 40 < m.Funcs.length then 1 else scan (funBad m) (endFault m 0) m.Funcs.length 0
/-- the fault of an image; 0: it may be -/
def imgFault (m : Img) : Int :=
 if 8000 < m.Text.length then 1
 else if funcsFault m ≠ 0 then funcsFault m
 else entryFault m
/-- the same, function by function and on -/
theorem imgFault_scan (m : Img) (h1 : ¬ 8000 < m.Text.length) (h2 : ¬ 40 < m.Funcs.length) :
  imgFault m = scan (funBad m) (endFault m (entryFault m)) m.Funcs.length 0 := by
 unfold imgFault funcsFault
 rw [if_neg h1, if_neg h2]
 rw [scan_split (e := endFault m 0), scan_split (e := endFault m (entryFault m))]
 by_cases h : scan (funBad m) 0 m.Funcs.length 0 = 0
 ·rw [if_pos h, if_pos h]
  unfold endFault
  by_cases h3 : sumF m m.Funcs.length ≠ (m.Text.length : Int)
  ·rw [if_pos h3, if_pos h3]; simp
  ·rw [if_neg h3, if_neg h3]; simp
 ·rw [if_neg h, if_neg h, if_pos h]
theorem lineBad_zero {m : Img} {k : Nat} (h : lineBad m k = 0) : 0 ≤ (nth m.Lines k).N ∧ (nth m.Lines k).N ≤ 10000 ∧ lastAt m.Lines k < (nth m.Lines k).At ∧ (nth m.Lines k).At < (m.Text.length : Int) := by
 unfold lineBad at h
 split at h
 ·cases h
 ·split at h
  ·cases h
  ·omega

theorem lineBad_cases {m : Img} {k : Nat} (h : lineBad m k ≠ 0) : (((nth m.Lines k).N < 0 ∨ 10000 < (nth m.Lines k).N) ∧ lineBad m k = 2) ∨
  ((0 ≤ (nth m.Lines k).N ∧ (nth m.Lines k).N ≤ 10000) ∧ ((nth m.Lines k).At ≤ lastAt m.Lines k ∨ (m.Text.length : Int) ≤ (nth m.Lines k).At) ∧ lineBad m k = 8) := by
 unfold lineBad at h ⊢
 split
 ·rename_i h1; exact Or.inl ⟨h1, rfl⟩
 ·rename_i h1
  split
  ·rename_i h2; exact Or.inr ⟨by omega, h2, rfl⟩
  ·rename_i h2; rw [if_neg h1, if_neg h2] at h; exact absurd rfl h
theorem tabBad_cases (m : Img) (i : Nat) : (20 < (nth m.Tables i).length ∧ tabBad m i = 1) ∨ ((nth m.Tables i).length ≤ 20 ∧ ((anyN (outside m (nth m.Tables i)) (nth m.Tables i).length = true ∧ tabBad m i = 2) ∨ (anyN (outside m (nth m.Tables i)) (nth m.Tables i).length = false ∧ tabBad m i = 0))) := by
 unfold tabBad
 by_cases h1 : 20 < (nth m.Tables i).length
 ·rw [if_pos h1]; exact Or.inl ⟨h1, rfl⟩
 ·rw [if_neg h1]
  cases h2 : anyN (outside m (nth m.Tables i)) (nth m.Tables i).length with
  | true => exact Or.inr ⟨by omega, Or.inl ⟨rfl, if_pos rfl⟩⟩
  | false => exact Or.inr ⟨by omega, Or.inr ⟨rfl, if_neg (by simp)⟩⟩
theorem funBad_cases (m : Img) (k : Nat) : (nameOk (fname m k) = false ∧ funBad m k = 4) ∨ (nameOk (fname m k) = true ∧ ((anyN (sameName m k) k = true ∧ funBad m k = 7) ∨ (anyN (sameName m k) k = false ∧
  ((((nth m.Funcs k).Start ≠ sumF m k ∨ (nth m.Funcs k).Size < 1 ∨ (m.Text.length : Int) - sumF m k < (nth m.Funcs k).Size) ∧ funBad m k = 8) ∨ (((nth m.Funcs k).Start = sumF m k ∧ 1 ≤ (nth m.Funcs k).Size ∧ (nth m.Funcs k).Size ≤ (m.Text.length : Int) - sumF m k) ∧ funBad m k = 0))))) := by
 unfold funBad
 cases h1 : nameOk (fname m k) with
 | false => exact Or.inl ⟨rfl, if_pos rfl⟩
 | true =>
  refine Or.inr ⟨rfl, ?_⟩
  rw [if_neg (by simp)]
  cases h2 : anyN (sameName m k) k with
  | true => exact Or.inl ⟨rfl, if_pos rfl⟩
  | false =>
   refine Or.inr ⟨rfl, ?_⟩
   rw [if_neg (by simp)]
   by_cases h3 : (nth m.Funcs k).Start ≠ sumF m k ∨ (nth m.Funcs k).Size < 1 ∨ (m.Text.length : Int) - sumF m k < (nth m.Funcs k).Size
   ·exact Or.inl ⟨h3, if_pos h3⟩
   ·exact Or.inr ⟨by omega, if_neg h3⟩

/-- a block of six cells, made: what it holds, in a world that has a name of its own -/
theorem box6 (w : World) (T : TypeId) (a0 a1 a2 a3 a4 a5 : Value) : ∃ W1 : World, W1 = w.alloc (.cells #[a0, a1, a2, a3, a4, a5] T) ∧ Keeps w W1 ∧ w.heap.size < W1.heap.size ∧
  W1.cell? ⟨w.heap.size, 0, none⟩ = some a0 ∧ W1.cell? ⟨w.heap.size, 1, none⟩ = some a1 ∧ W1.cell? ⟨w.heap.size, 2, none⟩ = some a2 ∧ W1.cell? ⟨w.heap.size, 3, none⟩ = some a3 ∧ W1.cell? ⟨w.heap.size, 4, none⟩ = some a4 ∧ W1.cell? ⟨w.heap.size, 5, none⟩ = some a5 :=
 ⟨_, rfl, (Keeps.refl _).alloc _, by rw [sz_alloc]; omega, by simp, by simp, by simp, by simp, by simp, by simp⟩
end Go.Proofs.YtnekiooaobnndaaDoor
end
section
namespace Go.Proofs.YtnekiooaobnndaaDoor.BH
open Go.RowKit Go.Maps Go.WideShapes Go.MapKept
set_option maxRecDepth 100000
variable {P : Program} {t k e : TypeId} {κ ν : Type} {enc : κ → Value} {wf : κ → Prop} {venc : ν → Value} {lit : ν → DataW Unit} {wv : ν → Prop} {z0 : ν}
theorem MapF.entry [DecidableEq κ] (M : MK P t k e enc wf venc lit wv z0) {w : World} {b n : Nat} {m : κ → Option ν} (h : MapF P k e enc wf lit w b n m) (hn : n < maxLen) {x : κ} (hx : wf x) {c : ν} (hc : wv c) :
  ∃ (v0 : Value) (st : Nat) (w1 w' : World), (Instr.mapEntry t (.map (some b)) (enc x)).run P w = .ok (.tuple #[v0, .int .i64 (st : Int)]) w1 ∧ (Instr.entryStore t (.map (some b)) (.int .i64 (st : Int)) (venc c)).run P w1 = .ok () w' ∧
   MapF P k e enc wf lit w' b (n + 1) (fun y => if y = x then some c else m y) ∧ w.grownBy w' (some b) ∧ w.grownBy w1 (some b) ∧ w1.heap.size = w.heap.size := by
 have hgs : ∀ o, w.grownBy { w with heap := w.heap.setIfInBounds b o } (some b) := fun o => ⟨rfl, rfl, rfl, by simp, fun q hq hne => by
  have : ¬ b = q := fun e => hne (by rw [e])
  simp [this]⟩
 obtain ⟨w', hrun, h1, h2⟩ := h.put M hn hx hc
 obtain ⟨D, ⟨es, clock, hb, F, hs, hD⟩, hm⟩ := h
 obtain ⟨kl, hkey⟩ := M.key x hx
 obtain ⟨s1, s2, _⟩ := F.stamped
 have hbl : b < w.heap.size := lt_of_block hb
 have at1 : ∀ o, (w.heap.setIfInBounds b o)[b]? = some o := fun o => by simp [hbl]
 have two : ∀ o1 o2, (w.heap.setIfInBounds b o1).setIfInBounds b o2 = w.heap.setIfInBounds b o2 := fun o1 o2 => by simp
 rcases M.K.find w hkey es.toList F.keys with ⟨g1, g2⟩ | ⟨j, e0, g1, g2, g3⟩
 ·have hw : w' = { w with heap := w.heap.setIfInBounds b (.map (es.push ⟨enc x, venc c, clock⟩) (clock + 1)) } := by
   have q := hrun
   simp [Instr.mapUpdate, run_underlying M.ht, MapKept.run_getObj_map hb, M.K.check w false hkey, g1, MapKept.run_setObj_map _ hb, Result.andThen] at q
   exact q.symm
  have hno : es.findIdx? (fun e => ((e.born : Nat) : Int) == ((clock : Nat) : Int)) = none := by
   rw [Array.findIdx?_eq_none_iff]
   intro y hy
   have := s1 y (by simpa using hy)
   simp
   omega
  refine ⟨venc z0, clock, { w with heap := w.heap.setIfInBounds b (.map (es.push ⟨enc x, venc z0, clock⟩) (clock + 1)) }, w', ?_, ?_, h1, h2, hgs _, by simp⟩
  ·simp [Instr.mapEntry, run_underlying M.ht, MapKept.run_getObj_map hb, M.K.check w false hkey, g1, M.zero, MapKept.run_setObj_map _ hb, Result.andThen, goInt]
  ·have hi : (es.push ⟨enc x, venc z0, clock⟩).findIdx? (fun e => ((e.born : Nat) : Int) == ((clock : Nat) : Int)) = some es.size := by
    rw [Array.findIdx?_push, hno]
    simp
   have hmod : (es.push ⟨enc x, venc z0, clock⟩).modify es.size (fun e => { e with val := venc c }) = es.push ⟨enc x, venc c, clock⟩ := by
    apply Array.ext
    ·simp
    ·intro i i1 i2
     rw [Array.getElem_modify]
     by_cases q : es.size = i
     ·subst q; simp
     ·rw [if_neg q]
      have : i < es.size := by simp at i2; omega
      rw [Array.getElem_push_lt this, Array.getElem_push_lt this]
   have hb1 : ({ w with heap := w.heap.setIfInBounds b (.map (es.push ⟨enc x, venc z0, clock⟩) (clock + 1)) } : World).heap[b]? = some (.map (es.push ⟨enc x, venc z0, clock⟩) (clock + 1)) := at1 _
   rw [hw]
   simp [Instr.entryStore, MapKept.run_getObj_map hb1, MapKept.run_setObj_map _ hb1, asInt, asIntOf, hi, hmod, Result.andThen]
 ·have hj : es[j]? = some e0 := by simpa using g2
  have hjl : j < es.size := (Array.getElem?_eq_some_iff.1 hj).1
  have hje : es[j] = e0 := (Array.getElem?_eq_some_iff.1 hj).2
  have hsame : es.modify j (fun e => { e with key := enc x }) = es := by
   apply Array.ext
   ·simp
   ·intro i i1 i2
    rw [Array.getElem_modify]
    by_cases q : j = i
    ·subst q; rw [if_pos rfl, hje, ← g3]
    ·rw [if_neg q]
  have hw : w' = { w with heap := w.heap.setIfInBounds b (.map (es.modify j fun e' => { e' with key := enc x, val := venc c }) clock) } := by
   have q := hrun
   simp [Instr.mapUpdate, run_underlying M.ht, MapKept.run_getObj_map hb, M.K.check w false hkey, g1, hj, g3, M.K.stays w hkey, MapKept.run_setObj_map _ hb, Result.andThen] at q
   exact q.symm
  refine ⟨e0.val, e0.born, { w with heap := w.heap.setIfInBounds b (.map es clock) }, w', ?_, ?_, h1, h2, hgs _, by simp⟩
  ·simp [Instr.mapEntry, run_underlying M.ht, MapKept.run_getObj_map hb, M.K.check w false hkey, g1, hj, g3, M.K.stays w hkey, hsame, MapKept.run_setObj_map _ hb, Result.andThen, goInt]
  ·have hi : es.findIdx? (fun e => ((e.born : Nat) : Int) == ((e0.born : Nat) : Int)) = some j := by
    rw [Array.findIdx?_eq_some_iff_getElem]
    refine ⟨hjl, by rw [hje]; simp, fun i hi q => ?_⟩
    have hb2 : es[i].born = e0.born := by have q2 := eq_of_beq q; omega
    have h3 : (es.toList.map (·.born))[i]'(by simp; omega) = (es.toList.map (·.born))[j]'(by simp; omega) := by simp [hb2, hje]
    exact List.pairwise_iff_getElem.1 s2 i j (by simp; omega) (by simp; omega) hi h3
   have hmod : es.modify j (fun e => { e with val := venc c }) = es.modify j (fun e' => { e' with key := enc x, val := venc c }) := by
    apply Array.ext
    ·simp
    ·intro i i1 i2
     rw [Array.getElem_modify, Array.getElem_modify]
     by_cases q : j = i
     ·subst q; rw [if_pos rfl, if_pos rfl, hje, ← g3]
     ·rw [if_neg q, if_neg q]
   have hb1 : ({ w with heap := w.heap.setIfInBounds b (.map es clock) } : World).heap[b]? = some (.map es clock) := at1 _
   rw [hw]
   simp [Instr.entryStore, MapKept.run_getObj_map hb1, MapKept.run_setObj_map _ hb1, asInt, asIntOf, hi, hmod, Result.andThen]
section
variable (w : World) {ops : Array Oper} {rest : List Oper} {o1 o2 o3 : Oper} {a : Act} {Q : Exit → Act → World → Prop}
end
end Go.Proofs.YtnekiooaobnndaaDoor.BH
end
