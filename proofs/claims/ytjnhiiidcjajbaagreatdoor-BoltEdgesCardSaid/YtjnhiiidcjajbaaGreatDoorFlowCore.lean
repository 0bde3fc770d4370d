/-
  What a flow (blocks, tables, firsts) looks like in memory. No program is named here.
-/
import Derived.Test.YtjnhiiidcjajbaaGreatDoorCore
namespace Go.Proofs.YtjnhiiidcjajbaaGreatDoor.BH
open Go.RowKit

/-- an instruction, as it lies in a block -/
structure Ic where
  K : Int
  D : Int
  A : Int
  B : Int
  N : Int
  Lg : Bool
  deriving Inhabited
def Ic.c (x : Ic) : Nat → Value | 0 => .int .i64 x.K | 1 => .int .i64 x.D | 2 => .int .i64 x.A | 3 => .int .i64 x.B | 4 => .int .i64 x.N | _ => .bool x.Lg
def Instrs (w : World) (v : Value) (l : List Ic) : Prop := Arr w v l.length 6 (fun i j => (nth l i).c j)
structure Bk where
  Func : Int
  Start : Int
  Code : List Ic
  At : List Int
  Last : Ic
  Ends : Int
  To : Int
  Else : Int
  Lines : List Int
  deriving Inhabited
def Bk.c (x : Bk) (cv av lv : Value) : Nat → Value
  | 0 => .int .i64 x.Func | 1 => .int .i64 x.Start | 2 => cv | 3 => av
  | 4 => x.Last.c 0 | 5 => x.Last.c 1 | 6 => x.Last.c 2 | 7 => x.Last.c 3 | 8 => x.Last.c 4 | 9 => x.Last.c 5
  | 10 => .int .i64 x.Ends | 11 => .int .i64 x.To | 12 => .int .i64 x.Else | _ => lv
def Blocks (w : World) (v : Value) (l : List Bk) : Prop :=
  ∃ cv av lv : Nat → Value, Arr w v l.length 14 (fun i j => (nth l i).c (cv i) (av i) (lv i) j) ∧
    ∀ i, i < l.length → Instrs w (cv i) (nth l i).Code ∧ Ints w (av i) (nth l i).At ∧ Ints w (lv i) (nth l i).Lines
theorem Blocks.keep {w w' : World} {v : Value} {l : List Bk} (h : Blocks w v l) (hk : Keeps w w') : Blocks w' v l := by
  obtain ⟨cv, av, lv, h1, h2⟩ := h
  exact ⟨cv, av, lv, h1.keep hk, fun i hi => ⟨Arr.keep (h2 i hi).1 hk, Arr.keep (h2 i hi).2.1 hk, Arr.keep (h2 i hi).2.2 hk⟩⟩
structure Fl where
  Blocks : List Bk
  Tables : List (List Int)
  Firsts : List Int
  deriving Inhabited
def FlowAt (w : World) (v : Value) (f : Fl) : Prop := ∃ v0 v1 v2, v = .agg #[v0, v1, v2] ∧ Blocks w v0 f.Blocks ∧ Tabs w v1 f.Tables ∧ Ints w v2 f.Firsts
theorem FlowAt.keep {w w' : World} {v : Value} {f : Fl} (h : FlowAt w v f) (hk : Keeps w w') : FlowAt w' v f := by
  obtain ⟨v0, v1, v2, hv, h0, h1, h2⟩ := h
  exact ⟨v0, v1, v2, hv, h0.keep hk, h1.keep hk, Arr.keep h2 hk⟩
/-- The call returns a value and an error's number; all that was there is as it was. -/
def GivesN (P : Value → World → Prop) (er : Int) (w : World) (e : Ending) (w' : World) : Prop := ∃ v, e = .returned (.tuple #[v, .int .i64 er]) ∧ P v w' ∧ Keeps w w'
end Go.Proofs.YtjnhiiidcjajbaaGreatDoor.BH
