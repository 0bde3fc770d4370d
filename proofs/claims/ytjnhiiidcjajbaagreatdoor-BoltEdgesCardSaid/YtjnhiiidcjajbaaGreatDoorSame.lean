/-
  The laws' comparisons (sameInts, sameLists, sameImage): where both sides read as the same, they say so.
-/
import Derived.Test.YtjnhiiidcjajbaaGreatDoorOwn
import Derived.Test.YtjnhiiidcjajbaaGreatDoorTypes
import Derived.Deep.QuietTactic
import Derived.BigQuiet
import Derived.Deep.RegionHeld3
import Derived.Lib.Hide
import Derived.Laws.IdiomStrings
import Derived.Lib.BufferRead
namespace Go.Proofs.YtjnhiiidcjajbaaGreatDoor
open Go.RowKit BH
set_option maxHeartbeats 1000000
set_option maxRecDepth 100000

/-- 'string(b)' -/
theorem run_string_of {P : Program} {w : World} {v : Value} {l : List UInt8} (h : Bytes w v l) {src dst e : TypeId} (hs : P.underlying src = some (.slice e)) (he : P.underlying e = some (.int .u8)) (hd : P.underlying dst = some .string) :
    (convert src dst v).run P w = .ok (.string ⟨l.toArray⟩) w := by
  obtain ⟨ao, cap, rfl, -, -, -, hc⟩ := h
  cases ao with
  | none =>
    have hl : l = [] := by
      cases l with
      | nil => rfl
      | cons x r => obtain ⟨b, off, hab, _⟩ := hc (by simp); cases hab
    subst hl
    exact Lib.run_convert_nil_bytes w src dst e cap hs he hd
  | some a =>
    refine run_convert_bytes_back w src dst e a cap l hs he hd fun j hj => ?_
    obtain ⟨b, off, hab, hcell⟩ := hc (by omega)
    cases hab
    have : w.cell? ⟨b, off + j * 1 + 0, none⟩ = some (.int .u8 ((nth l j).toNat : Int)) := hcell j 0 hj (by omega)
    rw [nth_eq l j hj] at this
    rw [← this]
    unfold Addr.add
    split
    · rename_i h0; subst h0; simp
    · simp

end Go.Proofs.YtjnhiiidcjajbaaGreatDoor
