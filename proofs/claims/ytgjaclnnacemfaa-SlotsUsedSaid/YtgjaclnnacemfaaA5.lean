/-
  Proved here: the laws of slots return true: SlotsUsed, SlotsKeep, SlotsFull, SlotsDo (the walks through the laws).
  Conditions: the rows can be read.
-/
import Derived.Test.YtgjaclnnacemfaaA4
namespace Go.W
open Go Go.Proofs
open Enc (enc)
set_option maxRecDepth 10000

def xR (i : Int) : RReq := ⟨i, 0, zeroQ⟩
def hH (i : Int) : RHeld := ⟨true, xR i⟩
theorem hp1 : putH [zeroH, zeroH] (xR 5) = (0, [hH 5, zeroH], 0) := by rfl
theorem hp2 : putH [hH 5, zeroH] (xR 6) = (1, [hH 5, hH 6], 0) := by rfl
theorem hp3 : putH [hH 5, hH 6] (xR 7) = (0, [], 140) := by rfl
theorem hp4 : dropH [hH 5, hH 6] 0 = ([zeroH, hH 6], 0) := by rfl
theorem hp5 : putH [zeroH, hH 6] (xR 7) = (0, [hH 7, hH 6], 0) := by rfl
theorem hp6 : foundAt [hH 7, hH 6] 6 = some 1 := by rfl
theorem hp7 : foundAt [hH 7, hH 6] 5 = none := by rfl
theorem hp8 : usedH [hH 7, hH 6] = [0, 1] := by rfl
theorem hp0 : newH 2 = ([zeroH, zeroH], 0) := by rfl
theorem l24_holds_sp {w : World} : Sp Try.prog F.l24_holds #[] w fun v w' => v = .bool true ∧ Stp w w' := by
  refine en TBok rfl ?_
  have T := slots_New_sp (n := 2) (w := w); rw [hp0] at T
  refine rcall (T) ?_
  rintro v w1 ⟨⟨v1, rfl, O1⟩, e1⟩
  have q_ := O1.shape
  obtain ⟨a1, c1, rfl⟩ := q_
  refine rbuild (cs := enc (xR 5)) rfl ?_
  have T := slots_Put_sp (x := xR 5) O1.sl (by simp); rw [hp1] at T
  refine rcall (T) ?_
  rintro v w2 ⟨⟨v2, rfl, O2⟩, e2⟩
  have q_ := O2.shape
  obtain ⟨a2, c2, rfl⟩ := q_
  refine rbuild (cs := enc (xR 6)) rfl ?_
  have T := slots_Put_sp (x := xR 6) O2.sl (by simp); rw [hp2] at T
  refine rcall (T) ?_
  rintro v w3 ⟨⟨v3, rfl, O3⟩, e3⟩
  have q_ := O3.shape
  obtain ⟨a3, c3, rfl⟩ := q_
  refine rbuild (cs := enc (xR 7)) rfl ?_
  have T := slots_Put_sp (x := xR 7) O3.sl (by simp); rw [hp3] at T
  refine rcall (T) ?_
  rintro v w4 ⟨⟨v4, rfl, O4⟩, e4⟩
  have T := slots_Drop_sp (i := 0) (O3.sl.up (w' := w4)) (by simp); rw [hp4] at T
  refine rcall (T) ?_
  rintro v w5 ⟨⟨v5, rfl, O5⟩, e5⟩
  have q_ := O5.shape
  obtain ⟨a5, c5, rfl⟩ := q_
  refine rbuild (cs := enc (xR 7)) rfl ?_
  have T := slots_Put_sp (x := xR 7) O5.sl (by simp); rw [hp5] at T
  refine rcall (T) ?_
  rintro v w6 ⟨⟨v6, rfl, O6⟩, e6⟩
  have q_ := O6.shape
  obtain ⟨a6, c6, rfl⟩ := q_
  have T := slots_Find_sp (id := 6) O6.sl (by simp); rw [hp6] at T
  refine rcall (T) ?_
  rintro v w7 ⟨rfl, e7⟩
  have T := slots_Find_sp (id := 5) (O6.sl.up (w' := w7)) (by simp); rw [hp7] at T
  refine rcall (T) ?_
  rintro v w8 ⟨rfl, e8⟩
  iterate 10 (refine ite (fun _ => ?_) (fun h => absurd rfl h))
  have T := slots_Used_sp (O6.sl.up (w' := w8)) (by simp); rw [hp8] at T
  refine rcall (T) ?_
  rintro v w9 ⟨O9, e9⟩
  have q_ := O9.shape
  obtain ⟨a9, c9, rfl⟩ := q_
  refine rbs (vs := [.int .i64 0, .int .i64 1]) ([0, 1] : List Int) rfl rfl rfl (by decide) fun b w10 n10 S10 => ?_
  refine rcall ((r01_Ints_sp (O9.sl.up (w' := w10)) S10 (by simp)).tt rfl) ?_
  rintro v w11 ⟨rfl, e11⟩
  exact ⟨rfl, stp⟩
end Go.W
