/-
  Proved here: the laws of tables return true: TableKeeps (the walk through the law).
  Conditions: the rows can be read.
-/
import Derived.Test.YtpljfhomnbcpdaaTabP4
namespace Go.W
open Go Go.Proofs
open Enc (enc)
set_option maxRecDepth 10000

theorem tabD_ge {B b : Nat} {a : Option Addr} {c most i : Nat} (h : B ≤ b) (hi : tabD B b a c most i) : B ≤ i := by
  rcases hi with rfl | hi
  · exact h
  · exact hi.1
theorem TabS.lo {B b c most : Nat} {a : Option Addr} {s : TS} {w : World} (T : TabS B w b a c most s) : B ≤ b := T.1
theorem TabS.pos {B b c most : Nat} {a : Option Addr} {s : TS} {w : World} (T : TabS B w b a c most s) {k : KeyD} {n : Int} (h : s.M k = some n) : 1 ≤ s.u := by
  obtain ⟨_, R, T, hM, hu⟩ := T
  rw [← hM] at h
  have q_ := (getT_has T.tab).1 h
  obtain ⟨i, hi, hui, _⟩ := q_
  have : 0 < usedN R := by unfold usedN; exact List.countP_pos_iff.2 ⟨_, List.getElem_mem hi, by rwa [rowF_get hi] at hui⟩
  omega
theorem TabS.le {B b c most : Nat} {a : Option Addr} {s : TS} {w : World} (T : TabS B w b a c most s) : s.u ≤ most ∧ most ≤ 400 := by
  obtain ⟨_, R, T, hM, hu⟩ := T; have := T.bnd; omega
theorem TabS.may {B b c most : Nat} {a : Option Addr} {s : TS} {w : World} (T : TabS B w b a c most s) {k : KeyD} (h : ¬ mayK k) : s.M k = none := by
  obtain ⟨_, R, T, hM, hu⟩ := T; rw [← hM]; exact getT_may T h

def kV (v : Int) : KeyD := ⟨0, 0, v⟩
def tq1 : TS := (putTS 2 zTS (kV 5) 9).1
def tq2 : TS := (putTS 2 tq1 ⟨0, 1, 5⟩ 1).1
def tq3 : TS := (dropTS tq2 (kV 5)).1
def tq4 : TS := (putTS 2 tq3 ⟨1, 0, 0⟩ 1).1
theorem tqc : (putTS 2 zTS (kV 5) 9).2 = 0 ∧ getTS tq1 (kV 5) = (9, true) ∧ getTS tq1 ⟨0, 1, 5⟩ = (0, false) ∧ (putTS 2 tq1 ⟨0, 1, 5⟩ 1).2 = 0 ∧ (putTS 2 tq2 ⟨1, 0, 0⟩ 1).2 = 140 ∧ (dropTS tq2 (kV 5)).2 = true ∧ (putTS 2 tq3 ⟨1, 0, 0⟩ 1).2 = 0 ∧ tq4.u = 2 := by decide
theorem tqs : (putTS 2 tq2 ⟨1, 0, 0⟩ 1).1 = tq2 := by rfl
theorem l14_tables_sp {w : World} : Sp Try.prog F.l14_tables #[] w fun v w' => v = .bool true ∧ Stp w w' := by
  obtain ⟨q1, q2, q3, q4, q5, q6, q7, q8⟩ := tqc
  refine en TBok rfl ?_
  refine rcall (table_New_sp (most := 2) (w := w)) ?_
  rintro v w1 ⟨⟨h, _⟩ | ⟨N, b, a, c, hN, _, _, rfl, T⟩, e1⟩
  · exact absurd h (by decide)
  have q_ : N = 2 := by omega
  obtain rfl := q_
  have hb := T.lo
  have ge : ∀ i, tabD w.heap.size b a c 2 i → w.heap.size ≤ i := fun i hi => tabD_ge hb hi
  refine rpnil ?_
  refine ite (fun h => absurd rfl h) (fun _ => ?_)
  refine rbuild (cs := enc (kV 5)) rfl ?_
  have P1 := Put_sp (k := kV 5) (n := 9) T; rw [q1] at P1
  refine rcall P1 ?_
  rintro v w2 ⟨rfl, T2, f2⟩
  have s2 : Stp w w2 := ⟨Fr.st Le.e f2 ge⟩
  refine rbuild (cs := enc (kV 5)) rfl ?_
  have P2 := Get_sp (s := tq1) (k := kV 5) T2; rw [q2] at P2
  refine rcall P2 ?_
  rintro v w3 ⟨rfl, e3⟩
  refine rbuild (cs := enc (⟨0, 1, 5⟩ : KeyD)) rfl ?_
  have P3 := Get_sp (s := tq1) (k := ⟨0, 1, 5⟩) (TabS.up (w' := w3) T2); rw [q3] at P3
  refine rcall P3 ?_
  rintro v w4 ⟨rfl, e4⟩
  refine rbuild (cs := enc (⟨0, 1, 5⟩ : KeyD)) rfl ?_
  have P4 := Put_sp (s := tq1) (k := ⟨0, 1, 5⟩) (n := 1) (TabS.up (w' := w4) T2); rw [q4] at P4
  refine rcall P4 ?_
  rintro v w5 ⟨rfl, T5, f5⟩
  have s5 : Stp w w5 := ⟨Fr.st Le.e f5 ge⟩
  refine rbuild (cs := enc (⟨1, 0, 0⟩ : KeyD)) rfl ?_
  have P5 := Put_sp (s := tq2) (k := ⟨1, 0, 0⟩) (n := 1) T5; rw [q5, tqs] at P5
  refine rcall P5 ?_
  rintro v w6 ⟨rfl, T6, f6⟩
  have s6 : Stp w w6 := ⟨Fr.st Le.e f6 ge⟩
  refine rbuild (cs := enc (kV 5)) rfl ?_
  have P6 := Drop_sp (s := tq2) (k := kV 5) T6; rw [q6] at P6
  refine rcall P6 ?_
  rintro v w7 ⟨rfl, T7, f7⟩
  have s7 : Stp w w7 := ⟨Fr.st Le.e f7 ge⟩
  refine rbuild (cs := enc (⟨1, 0, 0⟩ : KeyD)) rfl ?_
  have P7 := Put_sp (s := tq3) (k := ⟨1, 0, 0⟩) (n := 1) T7; rw [q7] at P7
  refine rcall P7 ?_
  rintro v w8 ⟨rfl, T8, f8⟩
  have s8 : Stp w w8 := ⟨Fr.st Le.e f8 ge⟩
  iterate 5 (refine ite (fun _ => ?_) (fun h => absurd rfl h))
  have P8 := Len_sp (s := tq4) T8; rw [q8] at P8
  refine rcall P8 ?_
  rintro v w9 ⟨rfl, e9⟩
  refine ite (fun _ => ?_) (fun h => absurd rfl h)
  exact ⟨rfl, stp⟩

/-- a step of a script of tables -/
structure TStep where
  kind : Int
  key : KeyD
  n : Int
instance : Enc TStep := ⟨5, fun x => [.int .i64 x.kind, .int .i64 x.key.slot, .int .i64 x.key.dir, .int .i64 x.key.v, .int .i64 x.n], fun _ => rfl, by intro x u hu; simp at hu; rcases hu with rfl | rfl | rfl | rfl | rfl <;> rfl, by decide⟩
def doTS (most : Nat) (s : TS) (o : TStep) : TS := if o.kind = 1 then (putTS most s o.key o.n).1 else if o.kind = 3 then (dropTS s o.key).1 else s
theorem do_sp {B b c most : Nat} {a : Option Addr} {s : TS} {o : TStep} {w : World} (T : TabS B w b a c most s) :
    Sp Try.prog F.l14_do #[.pointer (some ⟨b, 0, none⟩), agg o] w fun _ w' => TabS B w' b a c most (doTS most s o) ∧ Fr (tabD B b a c most) w w' := by
  refine en TBok rfl ?_
  refine rbx fun bk w1 n1 B1 => ?_
  refine rld (B := B1) rfl ?_
  unfold doTS
  refine ite (fun h1 => ?_) (fun h1 => ?_)
  · rw [if_pos h1]
    refine rldG (ds := enc o.key) (B := B1) rfl rfl ?_
    refine rld (B := B1) rfl ?_
    refine rcall (Put_sp (k := o.key) (n := o.n) (T.up (w' := w1))) ?_
    rintro v w2 ⟨rfl, T2, f2⟩
    exact ⟨T2, (Fr.fr Le.e : Fr (tabD B b a c most) w w1).trans f2⟩
  · rw [if_neg h1]
    refine ite (fun h3 => ?_) (fun h3 => ?_)
    · rw [if_pos h3]
      refine rldG (ds := enc o.key) (B := B1) rfl rfl ?_
      refine rcall (Drop_sp (k := o.key) (T.up (w' := w1))) ?_
      rintro v w2 ⟨rfl, T2, f2⟩
      exact ⟨T2, (Fr.fr Le.e : Fr (tabD B b a c most) w w1).trans f2⟩
    · rw [if_neg h3]
      exact ⟨T.up, Fr.fr Le.e⟩
end Go.W
