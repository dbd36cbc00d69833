/-
  Proved here: WaitOrder returns true (the walk through the law).
  Conditions: the rows can be read.
-/
import Derived.Test.YtgjaclnnacemfaaC6
namespace Go.W
open Go Go.Proofs
open Enc (enc)
set_option maxRecDepth 10000

theorem nextR_drop {L : List RReq} {k : Nat} (h : k < L.length) : nextR (L.drop k) = (L[k], L.drop (k + 1), true) := by
  rw [List.drop_eq_getElem_cons h]; rfl
theorem later_apart {L : List RReq} {k j : Nat} (h : L.Pairwise (fun a b => a.id ≠ b.id)) (hk : k < L.length) (hj : j < (L.drop (k + 1)).length) : (L.drop (k + 1))[j].id ≠ L[k].id := by
  rw [List.getElem_drop]
  exact fun e => List.pairwise_iff_getElem.1 h k (k + 1 + j) hk (by simp at hj; omega) (by omega) e.symm

theorem l23_WaitOrder_sp {wd : Wd} {a : Option Addr} {n c : Nat} {l : List RReq} {most : Int} {w : World} (h : SlF w (.slice a n c) l) (hq : ∀ r ∈ l, QOk wd w r.q) :
    Sp Try.prog F.l23_WaitOrder #[.slice a n c, .int .i64 most] w fun v w' => v = .bool true ∧ Ext w w' := by
  obtain rfl := h.len
  refine en TBok rfl ?_
  refine rcall (r23_Big_sp h hq) ?_
  rintro v w1 ⟨⟨rfl, hb⟩ | ⟨rfl, hb⟩, e1⟩
  · exact ⟨rfl, e1⟩
  obtain ⟨hn, hr⟩ := not_big hq hb
  refine loop3 TBok 19 [8, 9] 5 6 7 (fun q want i w' => ∃ (k : Nat) (L : List RReq), k ≤ l.length ∧ i = .int .i64 k ∧ PutOk most (l.take k) L ∧ Own w.heap.size E.api_Request w' q L ∧ Own w.heap.size E.api_Request w' want L ∧ Ext w w')
    (fun _ _ i _ => l.length - (Go.RowKit.intOf i).toNat) rfl ⟨0, [], by omega, rfl, PutOk.nil _ _, Own.nil _ _ _, Own.nil _ _ _, e1⟩ ?_
  rintro q want i g w' ⟨k, L, hk, rfl, hP, hO, hW, e⟩
  obtain ⟨qa, qc, rfl⟩ := hO.val
  have hL := hP.len
  rw [List.length_take] at hL
  refine ite (fun hlt => ?_) (fun hge => ?_)
  · have hka : k < l.length := by omega
    refine rix (h.ext e) (x := l[k]) (by simp) fun b o A => ?_
    refine rloadA A rfl ?_
    have T := wait_Put_sp (most := most) (x := l[k]) hO.sl (by omega)
    have hc := putR_cases L most l[k]
    rcases hc with ⟨hc, hne, hlt'⟩ | hc
    · rw [hc] at T
      refine rcall T ?_
      rintro v w2 ⟨⟨v2, rfl, O2⟩, e2⟩
      refine ite (fun _ => ?_) (fun h => absurd rfl h)
      refine rix (h.ext (e.t e2)) (x := l[k]) (by simp) fun b o A => ?_
      refine rloadA A rfl ?_
      refine rbs1 l[k] rfl rfl (by decide) fun b4 w4 e4 _ S4 => ?_
      have E4 := (e.t e2).t e4
      refine rapp (B := w.heap.size) (v := want) (l := L) (m := [l[k]]) ⟨rfl, rfl⟩ (hW.ext (e2.t e4)) S4 E4.size (by simp; omega) fun v5 w5 O5 f5 => ?_
      have hP' := hP.put hne hlt'
      rw [← List.take_succ_eq_append_getElem hka] at hP'
      have O2' : Own w.heap.size E.api_Request w5 v2 (L ++ [l[k]]) := ((O2.ext e4).fr f5 fun b hb _ hd => by have := hW.wr hd; omega).mono e.size
      refine rar (by omega) ⟨⟨k + 1, L ++ [l[k]], by omega, rfl, hP', O2', O5, Fr.st E4 f5 fun i hi => hi.1⟩, ?_⟩
      show _ - (k + 1) < _ - k; omega
    · refine rcall T ?_
      rintro v w2 ⟨⟨v2, rfl, O2⟩, e2⟩
      refine ite (fun h => absurd h hc) (fun _ => ?_)
      have hP' := hP.more (m := l.take (k + 1)) (by simp; omega) (fun r hr => by rw [List.take_succ_eq_append_getElem hka]; exact List.mem_append_left _ hr)
      refine rar (by omega) ⟨⟨k + 1, L, by omega, rfl, hP', hO.ext e2, hW.ext e2, e.t e2⟩, ?_⟩
      show _ - (k + 1) < _ - k; omega
  · have hP : PutOk most l L := hP.more (by simp; omega) fun r hr => List.mem_of_mem_take hr
    obtain ⟨wa, wc, rfl⟩ := hW.val
    have hW := hW.sl
    have hrL : RsOk wd w L := hr.sub hP.sub
    refine loop2 TBok 19 [4, 12, 13, 14, 15] 5 11 (fun q i u => ∃ k : Nat, k ≤ L.length ∧ i = .int .i64 k ∧ SlF u q (L.drop k) ∧ Ext w' u) (fun _ i _ => L.length - (Go.RowKit.intOf i).toNat) rfl ⟨0, by omega, rfl, hO.sl, Fr.refl _ _⟩ ?_
    rintro q i g2 u ⟨k, hk, rfl, hS, eu⟩
    have hsh := hS.shape
    obtain ⟨ua, uc, rfl⟩ := hsh
    refine ite (fun hlt => ?_) (fun hge => ?_)
    · have hka : k < L.length := by omega
      have T := wait_Next_sp hS (by simp; omega)
      rw [nextR_drop hka] at T
      refine rcall T ?_
      rintro v w2 ⟨⟨v2, rfl, O2⟩, e2⟩
      have O2 : Own _ _ _ v2 (L.drop (k + 1)) := O2
      obtain ⟨a2, c2, rfl⟩ := O2.val
      refine ralloc fun b w3 n3 => ?_
      refine rst n3.blk (vs := enc L[k]) rfl rfl (Nat.le_refl 8) (Enc.one _) fun w4 h4 f4 _ => ?_
      have A : At w4 b 0 (enc L[k]) := At.blk h4
      have X4 : Ext w2 w4 := n3.st f4
      have S2 := (O2.ext X4).sl
      have E4 := (eu.t e2).t X4
      refine drawR TBok mixed (fun _ => False) (upF 11 0) (by kernel_rfl) fun w5 e5 _ => ?_
      refine tloadA (A.ext e5) rfl id ?_
      refine tix (hW.ext (E4.t e5)) (x := L[k]) (by simp) fun b o A2 _ => ?_
      refine tloadA A2 rfl id ?_
      have hq := hrL L[k] (List.getElem_mem hka)
      have hq1 := hq.1.ext (e.t (E4.t e5))
      refine rcall ((r22_SameRequest_sp (wd := wd) hq1 hq1 hq.2).tt (sameR.refl wd _)) ?_
      rintro v w6 ⟨rfl, e6⟩
      refine ⟨e6, ?_⟩
      have E6 := (E4.t e5).t e6
      have hd60 : (L.drop (k + 1)).length ≤ 60 := by simp; omega
      refine loop1 TBok 19 [4] 15 (fun i x => ∃ j : Nat, j ≤ (L.drop (k + 1)).length ∧ i = .int .i64 j ∧ Ext w6 x) (fun i _ => (L.drop (k + 1)).length - (Go.RowKit.intOf i).toNat) rfl ⟨0, by omega, rfl, Fr.refl _ _⟩ ?_
      rintro i g3 x ⟨j, hj, rfl, ex⟩
      refine ite (fun hlt => ?_) (fun hge => ?_)
      · have hja : j < (L.drop (k + 1)).length := by omega
        refine drawR TBok mixed (fun _ => False) (upF 8 0) (by kernel_rfl) fun w7 e7 _ => ?_
        have X7 := (e5.t e6).t (ex.t e7)
        refine tix (S2.ext X7) (x := (L.drop (k + 1))[j]) (by simp) fun b o A2 _ => ?_
        refine tload1 (A2.cell 0 rfl) id ?_
        refine tload1 ((A.ext X7).cell 0 rfl) id ?_
        refine ite (fun he => absurd he (later_apart hP.apart hka hja)) (fun _ => ?_)
        refine rar (by omega) ⟨⟨j + 1, by omega, rfl, ex.t e7⟩, ?_⟩
        show _ - (j + 1) < _ - j; omega
      · refine rar (by omega) ⟨⟨k + 1, by omega, rfl, S2.ext ((e5.t e6).t ex), E6.t ex⟩, ?_⟩
        show _ - (k + 1) < _ - k; omega
    · obtain rfl : k = L.length := by omega
      have T := wait_Next_sp hS (by simp)
      rw [show nextR (L.drop L.length) = (zeroR, [], false) by rw [List.drop_length]; rfl] at T
      refine rcall T ?_
      rintro v w2 ⟨⟨v2, rfl, O2⟩, e2⟩
      refine ralloc fun b w3 n3 => ?_
      refine rst n3.blk (vs := enc zeroR) rfl rfl (Nat.le_refl 8) (Enc.one _) fun w4 h4 f4 _ => ?_
      have X4 : Ext w2 w4 := n3.st f4
      have E4 := (e.t (eu.t e2)).t X4
      refine rcall l23_waits_sp ?_
      rintro v w5 ⟨rfl, e5⟩
      refine ite (fun _ => ?_) (fun h => absurd rfl h)
      refine rmax ?_
      refine ite (fun _ => ?_) (fun h => absurd hP.most h)
      exact ⟨rfl, E4.t e5⟩
end Go.W
