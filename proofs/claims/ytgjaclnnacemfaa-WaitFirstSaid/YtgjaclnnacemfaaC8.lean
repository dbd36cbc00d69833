/-
  Proved here: WaitDoes returns true (the walk through the law).
  Conditions: the rows can be read.
-/
import Derived.Test.YtgjaclnnacemfaaC7
namespace Go.W
open Go Go.Proofs
open Enc (enc)
set_option maxRecDepth 10000

theorem put_in {l : List RReq} {most : Int} {x : RReq} : ∀ r ∈ (putR l most x).1, r ∈ l ∨ r = x := by
  unfold putR
  split
  · intro r hr; cases hr
  · split
    · intro r hr; cases hr
    · intro r hr; simpa using hr
theorem put_len {l : List RReq} {most : Int} {x : RReq} : (putR l most x).1.length ≤ l.length + 1 := by
  unfold putR
  split
  · simp
  · split <;> simp
theorem next_in {l : List RReq} : ∀ r ∈ (nextR l).2.1, r ∈ l := by
  cases l with
  | nil => intro r hr; cases hr
  | cons x t => intro r hr; exact List.mem_cons_of_mem _ hr
theorem next_len {l : List RReq} : (nextR l).2.1.length ≤ l.length := by
  cases l with
  | nil => exact Nat.le_refl _
  | cons x t => exact Nat.le_succ _
theorem take_len {l : List RReq} {id : Int} : (takeR l id).1.length ≤ l.length := by
  unfold takeR
  cases plc l id with
  | none => exact Nat.le_refl _
  | some k => simp; omega
theorem zeroR_ok {wd : Wd} (hz : wd ⟨none, 0, 0⟩ = []) (w : World) : QOk wd w zeroR.q := by
  unfold QOk; show SlF w (.slice none 0 0) (wd ⟨none, 0, 0⟩); rw [hz]; exact SlF.nil w
theorem next_ok {wd : Wd} (hz : wd ⟨none, 0, 0⟩ = []) {w : World} {l : List RReq} (h : RsOk wd w l) : QOk wd w (nextR l).1.q ∧ (wd (nextR l).1.q.words).length ≤ 1000000 := by
  cases l with
  | nil => exact ⟨zeroR_ok hz w, by show (wd ⟨none, 0, 0⟩).length ≤ _; rw [hz]; simp⟩
  | cons x t => exact h x (by simp)
theorem plcV_is (o : Option Nat) : ∃ (i : Int) (b : Bool), plcV o = .tuple #[.int .i64 i, .bool b] := by
  cases o with
  | none => exact ⟨_, _, rfl⟩
  | some k => exact ⟨_, _, rfl⟩

theorem Own.fr2 {α : Type} [Enc α] {D : Nat → Prop} {B : Nat} {e : TypeId} {w0 w w' : World} {v : Value} {l l' : List α} (h0 : Own B e w0 v l') (h : Own B e w v l) (hf : Fr D w w') (hd : ∀ b, B ≤ b → b < w0.heap.size → Value.blk v = some b → ¬ D b) : Own B e w' v l := by
  by_cases hv : ∃ a, v = .slice a 0 0
  · obtain ⟨a, rfl⟩ := hv
    obtain ⟨a', c', hs⟩ := h.sl.shape
    injection hs with _ h2 _
    exact .inl ⟨List.eq_nil_of_length_eq_zero h2.symm, a, rfl⟩
  · refine h.fr hf fun b hb hv' hD => ?_
    have : b < w0.heap.size := by
      rcases h0 with ⟨_, a, ha⟩ | h0
      · exact absurd ⟨a, ha⟩ hv
      · rcases h0.2 with ⟨rfl, _⟩ | ⟨g, cap, cur, rfl, _, hg, _⟩
        · cases hv'
        · simp only [Value.blk] at hv'; cases hv'; exact blk_lt hg
    exact hd b hb this hv' hD

set_option maxHeartbeats 800000 in
theorem l23_WaitDoes_sp {wd : Wd} {a : Option Addr} {n c : Nat} {l : List RReq} {most id : Int} {x : RReq} {w : World} (hz : wd ⟨none, 0, 0⟩ = []) (h : SlF w (.slice a n c) l) (hq : ∀ r ∈ l, QOk wd w r.q) (hx : QOk wd w x.q) :
    Sp Try.prog F.l23_WaitDoes #[.slice a n c, .int .i64 most, agg x, .int .i64 id] w fun v w' => v = .bool true ∧ Ext w w' := by
  obtain rfl := h.len
  refine en TBok rfl ?_
  refine rbox fun b w0 n0 => ?_
  have A0 : At w0 b 0 (enc x) := At.blk n0.blk
  have E0 := n0.ext
  refine rcall (r23_Big_sp (wd := wd) (h.ext E0) fun r hr => (hq r hr).ext E0) ?_
  rintro v w1 ⟨⟨rfl, hb⟩ | ⟨rfl, hb⟩, e1⟩
  · exact ⟨rfl, E0.t e1⟩
  obtain ⟨hn, hr⟩ := not_big hq hb
  refine rloadA ((A0.ext e1).sub 2 6) rfl ?_
  refine rcall (r18_Big_sp (wd := wd) (q := x.q) (hx.ext (E0.t e1))) ?_
  rintro v w2 ⟨⟨rfl, hb2⟩ | ⟨rfl, hb2⟩, e2⟩
  · exact ⟨rfl, (E0.t e1).t e2⟩
  have hxn : (wd x.q.words).length ≤ 20 := Nat.le_of_not_lt fun h' => hb2 (.inl h')
  have E2 := (E0.t e1).t e2
  have A2 := A0.ext (e1.t e2)
  refine rcall (l23_own_sp (h.ext E2) (by omega)) ?_
  rintro v w3 ⟨O3, e3⟩
  have hval := O3.val; obtain ⟨ma, mc, rfl⟩ := hval
  have E3 := E2.t e3
  refine rloadA (A2.ext e3) rfl ?_
  refine rcall (wait_Put_sp (h.ext E3) (by omega)) ?_
  rintro v w4 ⟨⟨va, rfl, O4⟩, e4⟩
  have hval := O4.val; obtain ⟨aa, ac, rfl⟩ := hval
  refine rloadA (A2.ext (e3.t e4)) rfl ?_
  refine rcall (r23_Put_sp (O3.sl.ext e4) (by omega)) ?_
  rintro v w5 ⟨⟨vb, rfl, O5⟩, e5⟩
  have hval := O5.val; obtain ⟨ba, bc, rfl⟩ := hval
  refine rcall (wait_Next_sp (h.ext (E3.t (e4.t e5))) (by omega)) ?_
  rintro v w6 ⟨⟨vd, rfl, O6⟩, e6⟩
  have hval := O6.val; obtain ⟨da, dc, rfl⟩ := hval
  refine ralloc fun b7 w7 n7 => ?_
  refine rst n7.blk (vs := enc (nextR l).1) rfl rfl (Nat.le_refl 8) (Enc.one _) fun w8 h8 f8 _ => ?_
  have A8 : At w8 b7 0 (enc (nextR l).1) := At.blk h8
  have X8 : Ext w6 w8 := n7.st f8
  refine rcall (r23_Next_sp (O3.sl.ext (e4.t (e5.t (e6.t X8)))) (by omega)) ?_
  rintro v w9 ⟨⟨vh, rfl, O9⟩, e9⟩
  have hval := O9.val; obtain ⟨ha, hc, rfl⟩ := hval
  refine ralloc fun b10 w10 n10 => ?_
  refine rst n10.blk (vs := enc (nextR l).1) rfl rfl (Nat.le_refl 8) (Enc.one _) fun w11 h11 f11 _ => ?_
  have A11 : At w11 b10 0 (enc (nextR l).1) := At.blk h11
  have X11 : Ext w9 w11 := n10.st f11
  have X3 : Ext w3 w11 := (e4.t (e5.t (e6.t X8))).t (e9.t X11)
  refine rcall (wait_Take_sp (id := id) (h.ext (E3.t X3)) (by omega)) ?_
  rintro v w12 ⟨⟨vi, rfl, O12⟩, e12⟩
  have hval := O12.val; obtain ⟨ia, ic, rfl⟩ := hval
  refine rcall (r23_Take_sp (id := id) (O3.sl.ext (X3.t e12)) (by omega)) ?_
  rintro v w13 ⟨⟨vk, rfl, O13⟩, e13⟩
  have hval := O13.val; obtain ⟨ka, kc, rfl⟩ := hval
  have X13 : Ext w3 w13 := X3.t (e12.t e13)
  have hpv := plcV_is (plc l id)
  obtain ⟨pi, pb, hpv⟩ := hpv
  have T1 := wait_Place_sp (id := id) (h.ext (E3.t X13)) (by omega)
  rw [hpv] at T1
  refine rcall T1 ?_
  rintro v w14 ⟨rfl, e14⟩
  have T2 := r23_Place_sp (id := id) (O3.sl.ext (X13.t e14)) (by omega)
  rw [hpv] at T2
  refine rcall T2 ?_
  rintro v w15 ⟨rfl, e15⟩
  have Y15 : Ext w13 w15 := e14.t e15
  have hrx : ∀ u, Ext w u → RsOk wd u (putR l most x).1 := fun u eu r hm => by
    rcases put_in r hm with hm | rfl
    · exact ⟨(hr r hm).1.ext eu, (hr r hm).2⟩
    · exact ⟨hx.ext eu, by omega⟩
  have hpl := put_len (l := l) (most := most) (x := x)
  have hnl := next_len (l := l)
  have htl := take_len (l := l) (id := id)
  have E15 : Ext w w15 := E3.t (X13.t Y15)
  refine rcall ((r23_Same_sp (wd := wd) (O4.sl.ext (e5.t ((e6.t X8).t ((e9.t X11).t ((e12.t e13).t Y15))))) (O5.sl.ext ((e6.t X8).t ((e9.t X11).t ((e12.t e13).t Y15)))) (hrx _ E15) (hrx _ E15) (by omega)).tt (sameRs.refl wd _)) ?_
  rintro v w16 ⟨rfl, e16⟩
  refine ite (fun _ => ?_) (fun h => absurd rfl h)
  have Y16 : Ext w11 w16 := (e12.t e13).t (Y15.t e16)
  refine rloadA (A8.ext ((e9.t X11).t Y16)) rfl (rloadA (A11.ext Y16) rfl ?_)
  have E16 := E15.t e16
  have hno := next_ok hz (hr.ext E16)
  refine rcall ((r22_SameRequest_sp (wd := wd) hno.1 hno.1 hno.2).tt (sameR.refl wd _)) ?_
  rintro v w17 ⟨rfl, e17⟩
  have E17 := E16.t e17
  refine rcall ((r23_Same_sp (wd := wd) (O6.sl.ext (X8.t ((e9.t X11).t (Y16.t e17)))) (O9.sl.ext (X11.t (Y16.t e17))) ((hr.ext E17).sub next_in) ((hr.ext E17).sub next_in) (by omega)).tt (sameRs.refl wd _)) ?_
  rintro v w18 ⟨rfl, e18⟩
  refine rbeq (fun _ => ?_) (fun h => absurd rfl h)
  have E18 := E17.t e18
  have Y18 : Ext w13 w18 := Y15.t (e16.t (e17.t e18))
  refine rcall ((r23_Same_sp (wd := wd) (O12.sl.ext (e13.t Y18)) (O13.sl.ext Y18) ((hr.ext E18).sub take_sub) ((hr.ext E18).sub take_sub) (by omega)).tt (sameRs.refl wd _)) ?_
  rintro v w19 ⟨rfl, e19⟩
  have E19 := E18.t e19
  refine rbeq (fun _ => ?_) (fun h => absurd rfl h)
  refine ite (fun _ => ?_) (fun h => absurd rfl h)
  refine rbeq (fun _ => ?_) (fun h => absurd rfl h)
  have hlA : (putR l most x).1.length ≤ 61 := by omega
  have hlI : (takeR l id).1.length ≤ 60 := by omega
  have hlD : (nextR l).2.1.length ≤ 60 := by omega
  have X4 : Ext w4 w11 := (e5.t (e6.t X8)).t (e9.t X11)
  have Y19 : Ext w11 w19 := (e12.t e13).t (Y18.t e19)
  refine loop1 TBok 32 [] 29 (fun i u => ∃ (k : Nat) (L : List RReq), k ≤ L.length ∧ L.length = (putR l most x).1.length ∧ i = .int .i64 k ∧ Own w3.heap.size E.api_Request u (.slice aa (putR l most x).1.length ac) L ∧ Fr (ownD w3.heap.size (.slice aa (putR l most x).1.length ac)) w19 u)
    (fun i _ => (putR l most x).1.length - (Go.RowKit.intOf i).toNat) rfl ⟨0, (putR l most x).1, by omega, rfl, rfl, O4.ext (X4.t Y19), Fr.refl _ _⟩ ?_
  rintro i g u1 ⟨k, L, hk, hL, rfl, hO, f1⟩
  refine ite (fun hlt => ?_) (fun hge => ?_)
  · have hka : k < L.length := by omega
    refine rixO rfl hO (x := L[k]) (by simp) fun g' hg _ A => ?_
    refine rstOf (x := L[k]) { L[k] with id := -7 } rfl hO hg (by simp) rfl (by decide) rfl rfl fun u' O' f' _ => ?_
    refine rar (by omega) ⟨⟨k + 1, _, by simp; omega, by simp; omega, rfl, O', f1.trans f'⟩, ?_⟩
    show _ - (k + 1) < _ - k; omega
  clear hO
  have OI := (O12.ext (e13.t (Y18.t e19))).fr f1 fun b hb _ hd => by
    have := O4.wr hd; have := X4.size; omega
  have OD := (O6.ext (X8.t ((e9.t X11).t Y19))).fr f1 fun b hb _ hd => by
    have := O4.wr hd; have := e5.size; omega
  refine loop1 TBok 32 [] 30 (fun i u => ∃ (k : Nat) (L : List RReq), k ≤ L.length ∧ L.length = (takeR l id).1.length ∧ i = .int .i64 k ∧ Own w11.heap.size E.api_Request u (.slice ia (takeR l id).1.length ic) L ∧ Fr (ownD w11.heap.size (.slice ia (takeR l id).1.length ic)) u1 u)
    (fun i _ => (takeR l id).1.length - (Go.RowKit.intOf i).toNat) rfl ⟨0, (takeR l id).1, by omega, rfl, rfl, OI, Fr.refl _ _⟩ ?_
  rintro i g u2 ⟨k, L, hk, hL, rfl, hO, f2⟩
  refine ite (fun hlt => ?_) (fun hge => ?_)
  · have hka : k < L.length := by omega
    refine rixO rfl hO (x := L[k]) (by simp) fun g' hg _ A => ?_
    refine rstOf (x := L[k]) { L[k] with id := -7 } rfl hO hg (by simp) rfl (by decide) rfl rfl fun u' O' f' _ => ?_
    refine rar (by omega) ⟨⟨k + 1, _, by simp; omega, by simp; omega, rfl, O', f2.trans f'⟩, ?_⟩
    show _ - (k + 1) < _ - k; omega
  clear hO
  have OD2 := Own.fr2 O6 OD f2 fun b _ hlt _ hd => by
    have := hd.1; have := X8.size; have := (e9.t X11).size; omega
  refine loop1 TBok 32 [] 31 (fun i u => ∃ (k : Nat) (L : List RReq), k ≤ L.length ∧ L.length = (nextR l).2.1.length ∧ i = .int .i64 k ∧ Own w5.heap.size E.api_Request u (.slice da (nextR l).2.1.length dc) L ∧ Fr (ownD w5.heap.size (.slice da (nextR l).2.1.length dc)) u2 u)
    (fun i _ => (nextR l).2.1.length - (Go.RowKit.intOf i).toNat) rfl ⟨0, (nextR l).2.1, by omega, rfl, rfl, OD2, Fr.refl _ _⟩ ?_
  rintro i g u3 ⟨k, L, hk, hL, rfl, hO, f3⟩
  refine ite (fun hlt => ?_) (fun hge => ?_)
  · have hka : k < L.length := by omega
    refine rixO rfl hO (x := L[k]) (by simp) fun g' hg _ A => ?_
    refine rstOf (x := L[k]) { L[k] with id := -7 } rfl hO hg (by simp) rfl (by decide) rfl rfl fun u' O' f' _ => ?_
    refine rar (by omega) ⟨⟨k + 1, _, by simp; omega, by simp; omega, rfl, O', f3.trans f'⟩, ?_⟩
    show _ - (k + 1) < _ - k; omega
  clear hO
  have Z : Ext w3 u3 := Fr.st (Fr.st (Fr.st (X3.t Y19) f1 fun i hi => hi.1) f2 fun i hi => Nat.le_trans X3.size hi.1) f3 fun i hi => Nat.le_trans (e4.t e5).size hi.1
  refine rcall l23_waits_sp ?_
  rintro v u4 ⟨rfl, e4'⟩
  have EZ := E3.t (Z.t e4')
  refine rcall ((r23_Same_sp (wd := wd) (h.ext EZ) (O3.sl.ext (Z.t e4')) (hr.ext EZ) (hr.ext EZ) (by omega)).tt (sameRs.refl wd _)) ?_
  rintro v u5 ⟨rfl, e5'⟩
  exact ⟨rfl, EZ.t e5'⟩
end Go.W
