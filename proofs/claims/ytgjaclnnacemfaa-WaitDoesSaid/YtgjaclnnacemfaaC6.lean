/-
  Proved here: WaitFirst returns true (the walk through the law).
  Conditions: the rows can be read.
-/
import Derived.Test.YtgjaclnnacemfaaC5
namespace Go.W
open Go Go.Proofs
open Enc (enc)
set_option maxRecDepth 10000

theorem plc_head (x : RReq) (r : List RReq) : plc (x :: r) x.id = some 0 := by unfold plc; rw [List.findIdx?_cons]; simp
theorem plc_none_iff {l : List RReq} {id : Int} : plc l id = none ↔ ∀ r ∈ l, r.id ≠ id := by unfold plc; rw [List.findIdx?_eq_none_iff]; simp
theorem plc_last {r : List RReq} {x : RReq} (h : plc r x.id = none) : plc (r ++ [x]) x.id = some r.length := by
  refine plc_some (by simp) (by simp) fun j hj => ?_
  rw [List.getElem_append_left hj]
  exact plc_none_iff.1 h _ (List.getElem_mem hj)

theorem New.st {w w1 w2 : World} {b : Nat} {cs : Array Value} {e : TypeId} (h : New w w1 b cs e) (f : Fr (fun i => i = b) w1 w2) : Ext w w2 := Fr.st h.ext f fun i hi => by rw [hi]; exact h.lo

theorem l23_WaitFirst_sp {wd : Wd} {a : Option Addr} {n c : Nat} {l : List RReq} {w : World} (h : SlF w (.slice a n c) l) (hq : ∀ r ∈ l, QOk wd w r.q) :
    Sp Try.prog F.l23_WaitFirst #[.slice a n c] w fun v w' => v = .bool true ∧ Ext w w' := by
  obtain rfl := h.len
  refine en TBok rfl ?_
  refine rcall (r23_Big_sp h hq) ?_
  rintro v w1 ⟨⟨rfl, hb⟩ | ⟨rfl, hb⟩, e1⟩
  · exact ⟨rfl, e1⟩
  obtain ⟨hn, hr⟩ := not_big hq hb
  have T := wait_Next_sp (h.ext e1) (by omega)
  cases l with
  | nil =>
    refine rcall T ?_
    rintro v w2 ⟨⟨v2, rfl, O2⟩, e2⟩
    obtain ⟨a2, c2, rfl⟩ := O2.val
    refine ralloc fun b w3 n3 => ?_
    refine rst n3.blk (vs := enc zeroR) rfl rfl (Nat.le_refl 8) (Enc.one _) fun w4 h4 f4 _ => ?_
    have X4 : Ext w2 w4 := n3.st f4
    have E4 := (e1.t e2).t X4
    refine rcall l23_waits_sp ?_
    rintro v w5 ⟨rfl, e5⟩
    refine ite (fun _ => ?_) (fun h => absurd rfl h)
    refine ite (fun _ => ?_) (fun h => absurd rfl h)
    exact ⟨rfl, E4.t e5⟩
  | cons x r =>
    refine rcall T ?_
    rintro v w2 ⟨⟨v2, rfl, O2⟩, e2⟩
    obtain ⟨a2, c2, rfl⟩ := O2.val
    refine ralloc fun b w3 n3 => ?_
    refine rst n3.blk (vs := enc x) rfl rfl (Nat.le_refl 8) (Enc.one _) fun w4 h4 f4 _ => ?_
    have A : At w4 b 0 (enc x) := At.blk h4
    have X4 : Ext w2 w4 := n3.st f4
    have E4 := (e1.t e2).t X4
    have S2 := (O2.ext X4).sl
    refine rload1 (A.cell 0 rfl) ?_
    have T := wait_Take_sp (id := x.id) (h.ext E4) (by omega)
    rw [takeR_some (plc_head x r)] at T
    refine rcall T ?_
    rintro v w5 ⟨⟨v5, rfl, O5⟩, e5⟩
    obtain ⟨a5, c5, rfl⟩ := O5.val
    refine rloadA (A.ext e5) rfl ?_
    have E5 := E4.t e5
    have hlen : r.length + 1 ≤ 60 := by simpa using hn
    have T := wait_Put_sp (most := ((x :: r).length : Nat)) (x := x) (S2.ext e5) (by show r.length ≤ _; omega)
    rcases hp : plc r x.id with _ | k
    · rw [show putR (nextR (x :: r)).2.1 ((x :: r).length : Nat) x = (r ++ [x], 0) by
        show putR r _ x = _
        unfold putR; rw [hp, if_neg (by simp), if_neg (by simp; omega)]] at T
      refine rcall T ?_
      rintro v w6 ⟨⟨v6, rfl, O6⟩, e6⟩
      obtain ⟨a6, c6, rfl⟩ := O6.val
      refine rload1 ((A.ext (e5.t e6)).cell 0 rfl) ?_
      refine rcall (wait_Place_sp (id := x.id) (S2.ext (e5.t e6)) (by show r.length ≤ _; omega)) ?_
      rintro v w7 ⟨hv, e7⟩
      have hv := plcV_of hv; rcases hv with ⟨_, rfl⟩ | ⟨k, hk, _⟩
      rotate_left
      · exact absurd (hk.symm.trans hp) nofun
      refine rload1 ((A.ext (e5.t (e6.t e7))).cell 0 rfl) ?_
      refine rcall (wait_Place_sp (id := x.id) (O6.sl.ext e7) (by simp; omega)) ?_
      rintro v w8 ⟨hv, e8⟩
      have h67 := plc_last hp
      have hv := plcV_of hv; rcases hv with ⟨h8, _⟩ | ⟨k, hk, rfl⟩
      · exact absurd (h8.symm.trans h67) nofun
      have hkr : k = r.length := by have := hk.symm.trans h67; cases this; rfl
      subst hkr
      have E8 := (E5.t (e6.t e7)).t e8
      have X8 := ((e6.t e7).t e8)
      refine rcall l23_waits_sp ?_
      rintro v w9 ⟨rfl, e9⟩
      have hr' : RsOk wd w r := hr.sub fun y hy => List.mem_cons_of_mem _ hy
      refine rcall ((r23_Same_sp (wd := wd) (O5.sl.ext (X8.t e9)) (S2.ext (e5.t (X8.t e9))) (hr'.ext (E8.t e9)) (hr'.ext (E8.t e9)) (by show r.length ≤ _; omega)).tt (sameRs.refl wd _)) ?_
      rintro v w10 ⟨rfl, e10⟩
      refine ite (fun _ => ?_) (fun h => absurd rfl h)
      refine rar (by simp; omega) ?_
      refine ite (fun _ => ?_) (fun h => absurd (by simp) h)
      refine ite (fun _ => ?_) (fun h => absurd (by simp) h)
      exact ⟨rfl, (E8.t e9).t e10⟩
    · rw [show putR (nextR (x :: r)).2.1 ((x :: r).length : Nat) x = ([], 150) by
        show putR r _ x = _
        unfold putR; rw [hp]; rfl] at T
      refine rcall T ?_
      rintro v w6 ⟨⟨v6, rfl, O6⟩, e6⟩
      refine rload1 ((A.ext (e5.t e6)).cell 0 rfl) ?_
      refine rcall (wait_Place_sp (id := x.id) (S2.ext (e5.t e6)) (by show r.length ≤ _; omega)) ?_
      rintro v w7 ⟨hv, e7⟩
      have hv := plcV_of hv; rcases hv with ⟨hk, _⟩ | ⟨k, hk, rfl⟩
      · exact absurd (hk.symm.trans hp) nofun
      have X7 := e6.t e7
      refine rcall l23_waits_sp ?_
      rintro v w8 ⟨rfl, e8⟩
      refine ite (fun _ => ?_) (fun h => absurd rfl h)
      have hr' : RsOk wd w r := hr.sub fun y hy => List.mem_cons_of_mem _ hy
      refine rcall ((r23_Same_sp (wd := wd) (O5.sl.ext (X7.t e8)) (S2.ext (e5.t (X7.t e8))) (hr'.ext (E5.t (X7.t e8))) (hr'.ext (E5.t (X7.t e8))) (by show r.length ≤ _; omega)).tt (sameRs.refl wd _)) ?_
      rintro v w9 ⟨rfl, e9⟩
      exact ⟨rfl, (E5.t (X7.t e8)).t e9⟩
end Go.W
