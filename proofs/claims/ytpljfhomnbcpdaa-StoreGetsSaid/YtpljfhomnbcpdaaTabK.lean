/-
  Proved here: the law TableKeeps returns true, and its statement TableKeepsSaid.
  Conditions: none beyond the given row.
-/
import Derived.Test.YtpljfhomnbcpdaaTabL
namespace Go.W
open Go Go.Proofs
open Enc (enc)
set_option maxRecDepth 10000

theorem put_keeps {most : Nat} {s : TS} {k o : KeyD} {n : Int} (h : k ≠ o) : getTS (putTS most s k n).1 o = getTS s o := by
  have e : ∀ u, getTS ⟨fun k' => if k' = k then some n else s.M k', u⟩ o = getTS s o := fun u => by unfold getTS; simp only [if_neg (Ne.symm h)]
  unfold putTS
  split
  · split
    · exact e _
    · split
      · rfl
      · exact e _
  · rfl
theorem drop_keeps {s : TS} {k o : KeyD} (h : k ≠ o) : getTS (dropTS s k).1 o = getTS s o := by
  unfold dropTS
  split
  · unfold getTS; simp only [if_neg (Ne.symm h)]
  · rfl
theorem drop_gone {s : TS} {k : KeyD} : (getTS (dropTS s k).1 k).2 = false := by
  unfold dropTS
  split
  · unfold getTS; simp
  · rename_i h; unfold getTS; rw [h]
theorem put_ok {most : Nat} {s : TS} {k : KeyD} {n : Int} (h : (putTS most s k n).2 = 0) : (putTS most s k n).1.M k = some n := by
  unfold putTS at h ⊢
  split at h
  · rename_i hk
    rw [if_pos hk]
    split at h
    · rename_i m hm; simp only [if_true]
    · rename_i hm
      split at h
      · exact absurd h (by show ¬ (140 : Int) = 0; decide)
      · rename_i hu; rw [if_neg hu]; simp only [if_true]
  · exact absurd h (by show ¬ (1 : Int) = 0; decide)
theorem put_no {most : Nat} {s : TS} {k : KeyD} {n : Int} (hm : ¬ mayK k → s.M k = none) (h : (putTS most s k n).2 ≠ 0) : (putTS most s k n).1 = s ∧ s.M k = none := by
  unfold putTS at h ⊢
  by_cases hk : mayK k
  · rw [if_pos hk] at h ⊢
    split at h
    · exact absurd rfl h
    · rename_i he
      split at h
      · rename_i hu; rw [if_pos hu]; exact ⟨rfl, he⟩
      · exact absurd rfl h
  · rw [if_neg hk]; exact ⟨rfl, hm hk⟩

set_option maxHeartbeats 400000 in
theorem l14_TableKeeps_sp {most n : Int} {k o : KeyD} {a0 : Option Addr} {n0 c0 : Nat} {l : List TStep} {w : World} (h : SlF w (.slice a0 n0 c0) l) :
    Sp Try.prog F.l14_TableKeeps #[.int .i64 most, .slice a0 n0 c0, agg k, agg o, .int .i64 n] w fun v w' => v = .bool true ∧ Stp w w' := by
  have q_ := h.len
  obtain rfl := q_
  refine en TBok rfl ?_
  refine rbx fun bk w1 n1 B1 => rbx fun bo w2 n2 B2 => ?_
  refine rcall (table_New_sp (most := most) (w := w2)) ?_
  rintro v w3 ⟨⟨_, rfl⟩ | ⟨N, b, a, c, rfl, hN1, hN2, rfl, T⟩, e3⟩
  · refine rpnil ?_
    refine rcall (l14_tables_sp) ?_
    rintro v w4 ⟨rfl, e4⟩
    exact ⟨rfl, stp⟩
  have hb := T.lo
  have ge : ∀ i, tabD w2.heap.size b a c N i → w2.heap.size ≤ i := fun i hi => tabD_ge hb hi
  refine rpnil ?_
  refine ite (fun h => absurd rfl h) (fun _ => ?_)
  refine ite (fun h1 => ?_) (fun h1 => ?_)
  · refine rcall (l14_tables_sp) ?_
    rintro v w4 ⟨rfl, e4⟩
    exact ⟨rfl, stp⟩
  refine rldG (ds := enc k) (B := B1) rfl rfl (rldG (ds := enc o) (B := B2) rfl rfl ?_)
  refine rgeq KeyD k o (fun _ => ?_) (fun hne => ?_)
  · refine rcall (l14_tables_sp) ?_
    rintro v w4 ⟨rfl, e4⟩
    exact ⟨rfl, stp⟩
  refine cnt TBok 27 [10] 13 l.length (fun i u => ∃ s, TabS w2.heap.size u b a c N s ∧ Stp w2 u) rfl rfl ⟨_, T, stp⟩ ?_
  rintro i g u hi ⟨s, Ts, e⟩
  refine ite (fun hlt => ?_) (fun hge => ?_)
  · have hka : i < l.length := by omega
    refine rix (h.up (w' := u)) (x := l[i]) (by simp) fun b4 o4 A4 => rloadA A4 rfl ?_
    refine rcall (do_sp (o := l[i]) Ts) ?_
    rintro v u1 ⟨T1, f1⟩
    have s1 : Stp w2 u1 := ⟨Fr.st e.e f1 ge⟩
    exact rar (by omega) ⟨rfl, hka, _, T1, s1⟩
  refine rldG (ds := enc o) (B := B2) rfl rfl ?_
  refine rcall (Get_sp (k := o) Ts) ?_
  rintro v u1 ⟨rfl, e1⟩
  refine rldG (ds := enc k) (B := B1) rfl rfl ?_
  refine rcall (Put_sp (k := k) (n := n) (Ts.up (w' := u1))) ?_
  rintro v u2 ⟨rfl, T2, f2⟩
  have s2 : Stp w2 u2 := ⟨Fr.st Le.e f2 ge⟩
  have G1 := Get_sp (k := o) T2
  rw [put_keeps hne] at G1
  refine rldG (ds := enc o) (B := B2) rfl rfl ?_
  refine rcall G1 ?_
  rintro v u3 ⟨rfl, e3'⟩
  have T3 := T2.up (w' := u3)
  have G2 := Get_sp (k := k) T3
  refine rldG (ds := enc k) (B := B1) rfl rfl ?_
  by_cases hf : (putTS N s k n).2 = 0
  · have hok := put_ok hf
    have hgk : getTS (putTS N s k n).1 k = (n, true) := by unfold getTS; rw [hok]
    rw [hgk] at G2
    refine rcall G2 ?_
    rintro v u4 ⟨rfl, e4⟩
    refine ite (fun h => absurd hf h) (fun _ => ?_)
    refine rcall (Len_sp (T3.up (w' := u4))) ?_
    rintro v u5 ⟨rfl, e5⟩
    have T5 := T3.up (w' := u5)
    have hd : dropTS (putTS N s k n).1 k = (⟨fun k' => if k' = k then none else (putTS N s k n).1.M k', (putTS N s k n).1.u - 1⟩, true) := by unfold dropTS; rw [hok]
    refine rldG (ds := enc k) (B := B1) rfl rfl ?_
    have Dk := Drop_sp (k := k) T5
    have hd2 : (dropTS (putTS N s k n).1 k).2 = true := by rw [hd]
    rw [hd2] at Dk
    refine rcall Dk ?_
    rintro v u6 ⟨rfl, T6, f6⟩
    have s6 : Stp w2 u6 := ⟨Fr.st Le.e f6 ge⟩
    have G3 := Get_sp (k := k) T6
    rw [drop_gone] at G3
    refine rldG (ds := enc k) (B := B1) rfl rfl ?_
    refine rcall G3 ?_
    rintro v u7 ⟨rfl, e7⟩
    have T7 := T6.up (w' := u7)
    have G4 := Get_sp (k := o) T7
    rw [drop_keeps hne, put_keeps hne] at G4
    refine rldG (ds := enc o) (B := B2) rfl rfl ?_
    refine rcall G4 ?_
    rintro v u8 ⟨rfl, e8⟩
    refine rcall (l14_tables_sp) ?_
    rintro v u9 ⟨rfl, e9⟩
    refine ite (fun _ => ?_) (fun h => absurd rfl h)
    refine rbeq (fun _ => ?_) (fun h => absurd rfl h)
    refine ite (fun _ => ?_) (fun h => absurd rfl h)
    refine ite (fun _ => ?_) (fun h => absurd rfl h)
    refine rbeq (fun _ => ?_) (fun h => absurd rfl h)
    refine rcall (Len_sp (T7.up (w' := u9))) ?_
    rintro v u10 ⟨rfl, e10⟩
    have hpos := T3.pos hok
    have hle := T3.le
    have hu6 : (dropTS (putTS N s k n).1 k).1.u = (putTS N s k n).1.u - 1 := by rw [hd]
    refine rar (by omega) ?_
    refine ite (fun _ => ⟨rfl, stp⟩) (fun h => absurd (by omega) h)
  · have hno := put_no (n := n) (most := N) (fun h => Ts.may h) hf
    obtain ⟨hs, hn⟩ := hno
    have hgk : getTS (putTS N s k n).1 k = (0, false) := by rw [hs]; unfold getTS; rw [hn]
    rw [hgk] at G2
    refine rcall G2 ?_
    rintro v u4 ⟨rfl, e4⟩
    refine ite (fun _ => ?_) (fun h => absurd hf h)
    refine rcall (l14_tables_sp) ?_
    rintro v u9 ⟨rfl, e9⟩
    refine ite (fun _ => ?_) (fun h => absurd rfl h)
    refine rbeq (fun _ => ?_) (fun h => absurd rfl h)
    exact ⟨rfl, stp⟩
end Go.W
