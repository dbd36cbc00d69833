/-
  Proved here: the store's law: one step on the store, what no store answers, and that the laws StoreEmpty, StoreSlots, StoreRuns, StoreGets, StoreNil return true.
  Conditions: the rows can be read.
-/
import Derived.Test.YtpljfhomnbcpdaaStoR
namespace Go.W
open Go Go.Proofs
open Enc (enc)
set_option maxRecDepth 10000

theorem FrS.ne {gs B : Nat} {w w' : World} {b : Nat} {cs : List Value} {e : TypeId} (f : FrS gs B w w') (k : Bk w b cs e) (he : e ∉ psE) (hg : b ≠ gs) : Fr (fun i => i ≠ b) w w' :=
  Fr.mono f fun i _ hi => by
    rintro rfl
    exact hi.elim hg fun hi => he (hi.cells k.h)
theorem FrS.stp {gs B : Nat} {a b c : World} (f : FrS gs B b c) [L : Le a b] (hB : a.heap.size ≤ B) (hg : a.heap.size ≤ gs) : Stp a c := ⟨FrX.st L.e f hB fun _ hi => hi ▸ hg⟩

def sx : StD := ⟨⟨0, 0, 5⟩, 3⟩
def sy : StD := ⟨⟨1, 1, 5⟩, 0⟩
def sz' : StD := ⟨⟨1, 0, 5⟩, 0⟩
theorem sqs : putS' 2 [] sx = ([sx], 0) ∧ putS' 2 [sx] sx = ([sx], 150) ∧ putS' 2 [sx] sz' = ([sx, sz'], 0) ∧ putS' 2 [sx, sz'] sy = ([sx, sz'], 140) ∧ dropS [sx, sz'] 0 = [sz'] ∧ ofS [sx, sz'] 0 = [sx] ∧ putS' 2 [sz'] sy = ([sz', sy], 0) := by decide
set_option maxHeartbeats 1000000 in
theorem l15_stored_sp {w : World} : Sp Try.prog F.l15_stored #[] w fun v w' => v = .bool true ∧ Stp w w' := by
  obtain ⟨q1, q2, q3, q4, q5, q6, q7⟩ := sqs
  refine en TBok rfl ?_
  refine rcall (store_New_sp (size := 2) (w := w)) ?_
  rintro v w1 ⟨⟨h, _⟩ | ⟨N, b, gs, hN, _, _, rfl, S, _⟩, e1⟩
  · exact absurd h (by decide)
  have q_ : N = 2 := by omega
  obtain rfl := q_
  have hgs := S.lt.2.2.1
  refine rpnil ?_
  refine ite (fun h => absurd rfl h) (fun _ => ?_)
  refine rbuild (cs := enc sx.key) rfl ?_
  refine rbuild (cs := enc sx) rfl ?_
  refine ral fun b2 w2 n2 z2 => ?_
  refine rsto (B := z2) (vs := enc sx) rfl rfl rfl (Enc.one _) fun w3 B3 f3 _ => ?_
  have s3 : Stp w1 w3 := ⟨Fr.st Le.e f3 fun i hi => by subst hi; exact n2.lo⟩
  have B3' : Bk w3 b2 (enc sx) E.api_State := B3
  clear z2 f3 B3
  refine rbuild (cs := enc sy.key) rfl ?_
  refine rbuild (cs := enc sy) rfl ?_
  refine ral fun b4 w4 n4 z4 => ?_
  refine rsto (B := z4) (vs := enc sy) rfl rfl rfl (Enc.one _) fun w5 B5 f5 _ => ?_
  have s5 : Stp w3 w5 := ⟨Fr.st Le.e f5 fun i hi => by subst hi; exact n4.lo⟩
  have B5' : Bk w5 b4 (enc sy) E.api_State := B5
  clear z4 f5 B5
  have S5 := S.up (w' := w5)
  have n1g : b2 ≠ gs ∧ b4 ≠ gs := by
    obtain ⟨bt, ta, tc, ts, fa, fc, fr, sc, st, bm, m, ch, H, T, _⟩ := S
    have := H.sts.lt (by intro h; have := T.stl; rw [h] at this; simp at this)
    obtain ⟨g, h1, _, h2⟩ := this
    have hge : gs = g := Option.some.inj h1
    have := n2.lo (u := w1); have := n4.lo (u := w1); omega
  have X5 := B3'.mv (w := w5)
  have P1 := store_Put_sp (x := sx) S5; rw [q1] at P1
  refine rldG (ds := enc sx) (B := X5) rfl rfl ?_
  refine rcall P1 ?_
  rintro v w6 ⟨rfl, S6, f6⟩
  have s6 : Stp w w6 := f6.stp (Nat.le_refl _) hgs
  have X6 := X5.keptX f6 n1g.1 (by decide)
  have Y6 := B5'.keptX f6 n1g.2 (by decide)
  have P2 := store_Put_sp (x := sx) S6; rw [q2] at P2
  refine rldG (ds := enc sx) (B := X6) rfl rfl ?_
  refine rcall P2 ?_
  rintro v w7 ⟨rfl, S7, f7⟩
  have s7 : Stp w w7 := f7.stp (Nat.le_refl _) hgs
  have Y7 := Y6.keptX f7 n1g.2 (by decide)
  refine rbuild (cs := enc sz'.key) rfl ?_
  refine rbuild (cs := enc sz') rfl ?_
  have P3 := store_Put_sp (x := sz') S7; rw [q3] at P3
  refine rcall P3 ?_
  rintro v w8 ⟨rfl, S8, f8⟩
  have s8 : Stp w w8 := f8.stp (Nat.le_refl _) hgs
  have Y8 := Y7.keptX f8 n1g.2 (by decide)
  have P4 := store_Put_sp (x := sy) S8; rw [q4] at P4
  refine rldG (ds := enc sy) (B := Y8) rfl rfl ?_
  refine rcall P4 ?_
  rintro v w9 ⟨rfl, S9, f9⟩
  have s9 : Stp w w9 := f9.stp (Nat.le_refl _) hgs
  have Y9 := Y8.keptX f9 n1g.2 (by decide)
  have P5 := store_Drop_sp (s := 0) S9; rw [q5, q6] at P5
  refine rcall P5 ?_
  rintro v w10 ⟨rfl, S10, f10⟩
  have s10 : Stp w w10 := f10.stp (Nat.le_refl _) hgs
  have Y10 := Y9.keptX f10 n1g.2 (by decide)
  have P6 := store_Put_sp (x := sy) S10; rw [q7] at P6
  refine rldG (ds := enc sy) (B := Y10) rfl rfl ?_
  refine rcall P6 ?_
  rintro v w11 ⟨rfl, S11, f11⟩
  have s11 : Stp w w11 := f11.stp (Nat.le_refl _) hgs
  refine ite (fun _ => ?_) (fun h => absurd rfl h)
  refine ite (fun _ => ?_) (fun h => absurd rfl h)
  refine ite (fun _ => ?_) (fun h => absurd rfl h)
  refine ite (fun _ => ?_) (fun h => absurd rfl h)
  refine ite (fun _ => ?_) (fun h => absurd rfl h)
  refine ite (fun _ => ?_) (fun h => absurd rfl h)
  refine rcall (store_Live_sp S11) ?_
  rintro v w12 ⟨rfl, e12⟩
  refine ite (fun _ => ?_) (fun h => absurd rfl h)
  refine rcall (store_Free_sp (S11.up (w' := w12))) ?_
  rintro v w13 ⟨rfl, e13⟩
  refine ite (fun _ => ?_) (fun h => absurd rfl h)
  exact ⟨rfl, stp⟩

theorem l15_StoreNil_sp {x : StD} {slot : Int} {w : World} : Sp Try.prog F.l15_StoreNil #[agg x, .int .i64 slot] w fun v w' => v = .bool true ∧ Stp w w' := by
  refine en TBok rfl ?_
  refine rbx fun bk w1 n1 B1 => ?_
  refine rldG (ds := enc x.key) (B := B1) rfl rfl ?_
  refine rcall (store_Get_nil_sp (k := x.key)) ?_
  rintro v w2 ⟨rfl, e2⟩
  refine rcall (l15_stored_sp) ?_
  rintro v w3 ⟨rfl, e3⟩
  refine rldG (ds := enc x) (B := B1) rfl rfl ?_
  refine rcall (store_Put_nil_sp (x := x)) ?_
  rintro v w4 ⟨rfl, e4⟩
  refine ite (fun _ => ?_) (fun h => absurd rfl h)
  refine ite (fun _ => ?_) (fun h => absurd rfl h)
  refine rcall (store_Of_nil_sp) ?_
  rintro v w5 ⟨rfl, e5⟩
  refine ite (fun _ => ?_) (fun h => absurd rfl h)
  refine rcall (store_Drop_nil_sp) ?_
  rintro v w6 ⟨rfl, e6⟩
  refine ite (fun _ => ?_) (fun h => absurd rfl h)
  refine rcall (store_Live_nil_sp) ?_
  rintro v w7 ⟨rfl, e7⟩
  refine ite (fun _ => ?_) (fun h => absurd rfl h)
  refine rcall (store_Free_nil_sp) ?_
  rintro v w8 ⟨rfl, e8⟩
  refine ite (fun _ => ?_) (fun h => absurd rfl h)
  exact ⟨rfl, stp⟩

/-- a step of a script of stores -/
structure SStep where
  kind : Int
  x : StD
instance : Enc SStep := ⟨5, fun x => [.int .i64 x.kind, .int .i64 x.x.key.slot, .int .i64 x.x.key.dir, .int .i64 x.x.key.v, .int .i64 x.x.d], fun _ => rfl, by intro x u hu; simp at hu; rcases hu with rfl | rfl | rfl | rfl | rfl <;> rfl, by decide⟩
def doSS (size : Nat) (L : List StD) (o : SStep) : List StD := if o.kind = 1 then (putS' size L o.x).1 else if o.kind = 4 then dropS L o.x.key.slot else L
theorem l15_do_sp {B b gs size : Nat} {L : List StD} {o : SStep} {w : World} (S : StoP B w b gs size L) :
    Sp Try.prog F.l15_do #[.pointer (some ⟨b, 0, none⟩), agg o] w fun _ w' => StoP B w' b gs size (doSS size L o) ∧ FrS gs B w w' := by
  refine en TBok rfl ?_
  refine rbx fun bk w1 n1 B1 => ?_
  refine rld (B := B1) rfl ?_
  unfold doSS
  refine ite (fun h1 => ?_) (fun h1 => ?_)
  · rw [if_pos h1]
    refine rldG (ds := enc o.x) (B := B1) rfl rfl ?_
    refine rcall (store_Put_sp (x := o.x) (S.up (w' := w1))) ?_
    rintro v w2 ⟨rfl, S2, f2⟩
    exact ⟨S2, (FrX.ext Le.e).trans f2⟩
  · rw [if_neg h1]
    refine ite (fun h3 => ?_) (fun h3 => ?_)
    · rw [if_pos h3]
      refine rld (B := B1) rfl ?_
      refine rcall (store_Drop_sp (s := o.x.key.slot) (S.up (w' := w1))) ?_
      rintro v w2 ⟨rfl, S2, f2⟩
      exact ⟨S2, (FrX.ext Le.e).trans f2⟩
    · rw [if_neg h3]
      exact ⟨S.up, FrX.ext Le.e⟩
/-- all that is there is of a slot of the script -/
theorem doSS_slots {size : Nat} {L : List StD} {o : SStep} {P : Int → Prop} (h : ∀ x ∈ L, P x.key.slot) (ho : P o.x.key.slot) : ∀ x ∈ doSS size L o, P x.key.slot := by
  intro x hx
  unfold doSS at hx
  split at hx
  · unfold putS' at hx
    split at hx
    · split at hx
      · exact h x hx
      · split at hx
        · exact h x hx
        · have q_ := List.mem_cons.1 ((insS_perm o.x L).mem_iff.1 hx)
          rcases q_ with rfl | hx
          · exact ho
          · exact h x hx
    · exact h x hx
  · split at hx
    · exact h x (List.mem_filter.1 (show x ∈ List.filter _ _ from hx)).1
    · exact h x hx
end Go.W

namespace Go.W
open Go Go.Proofs
open Enc (enc)
set_option maxRecDepth 10000

theorem rdivQ {k : Value → World → Prop} {w : World} {x y q : Int} (h0 : 0 ≤ x) (h1 : 0 < y) (h2 : x ≤ 9223372036854775807) (hq : x / y = q) (hk : k (.int .i64 q) w) : DivS .i64 x y k w := rdiv h0 h1 h2 (hq ▸ hk)
theorem rremQ {k : Value → World → Prop} {w : World} {x y q : Int} (h0 : 0 ≤ x) (h1 : 0 < y) (hq : x % y = q) (hk : k (.int .i64 q) w) : RemS .i64 x y k w := rrem h0 h1 (hq ▸ hk)
def kq (q : Nat) : StD := ⟨⟨((q / 200 : Nat) : Int), 0, ((q % 200 : Nat) : Int)⟩, 0⟩
theorem kq_inj {p q : Nat} (h : (kq p).key = (kq q).key) : p = q := by
  simp only [kq, KeyD.mk.injEq] at h
  have h1 : p / 200 = q / 200 := by omega
  have h2 : p % 200 = q % 200 := by omega
  omega
theorem kq_may {q : Nat} (h : q < 400) : mayX (kq q) := by
  unfold mayX mayK kq
  dsimp only
  omega
/-- these are the first i -/
def FirstK (L : List StD) (i : Nat) : Prop := L.length = i ∧ ∀ x ∈ L, ∃ q, q < i ∧ x.key = (kq q).key
theorem FirstK.put {size : Nat} {L : List StD} {i : Nat} (h : FirstK L i) (hi : i < size) (hs : size ≤ 400) : putS' size L (kq i) = (insS (kq i) L, 0) ∧ FirstK (insS (kq i) L) (i + 1) := by
  have hno : hasS L (kq i).key = none := hasS_none.2 fun y hy e => by
    have q_ := h.2 y hy
    obtain ⟨q, hq, hk⟩ := q_
    have := kq_inj (hk.symm.trans e); omega
  have hl := h.1
  refine ⟨by unfold putS'; rw [if_pos (kq_may (by omega)), hno]; simp only; rw [if_neg (by omega)], by rw [(insS_perm _ L).length_eq]; simp [hl], fun x hx => ?_⟩
  have q_ := List.mem_cons.1 ((insS_perm _ L).mem_iff.1 hx)
  rcases q_ with rfl | hx
  · exact ⟨i, by omega, rfl⟩
  · have q_ := h.2 x hx
    obtain ⟨q, hq, hk⟩ := q_
    exact ⟨q, by omega, hk⟩
theorem FirstK.full {size : Nat} {L : List StD} (h : FirstK L size) (hs : size ≤ 400) : putS' size L ⟨⟨1000, 0, 0⟩, 0⟩ = (L, 140) := by
  have hno : hasS L ⟨1000, 0, 0⟩ = none := hasS_none.2 fun y hy e => by
    have q_ := h.2 y hy
    obtain ⟨q, hq, hk⟩ := q_
    have e2 := hk.symm.trans e
    simp only [kq, KeyD.mk.injEq] at e2
    have := e2.1
    omega
  unfold putS'
  rw [if_pos (by decide), hno]; simp only; rw [if_pos (by have := h.1; omega)]

set_option maxHeartbeats 1000000 in
theorem l15_StoreEmpty_sp {size : Int} {a0 : Option Addr} {n0 c0 : Nat} {l : List SStep} {w : World} (h : SlF w (.slice a0 n0 c0) l) :
    Sp Try.prog F.l15_StoreEmpty #[.int .i64 size, .slice a0 n0 c0] w fun v w' => v = .bool true ∧ Stp w w' := by
  have q_ := h.len
  obtain rfl := q_
  refine en TBok rfl ?_
  refine rcall (store_New_sp (size := size) (w := w)) ?_
  rintro v w1 ⟨⟨_, rfl⟩ | ⟨N, b, gs, rfl, hN1, hN2, rfl, S, _⟩, e1⟩
  · refine rpnil ?_
    refine rcall (l15_stored_sp) ?_
    rintro v w4 ⟨rfl, e4⟩
    exact ⟨rfl, stp⟩
  have hgs := S.lt.2.2.1
  refine rpnil ?_
  refine ite (fun h => absurd rfl h) (fun _ => ?_)
  refine ite (fun h1 => ?_) (fun h1 => ?_)
  · refine rcall (l15_stored_sp) ?_
    rintro v w4 ⟨rfl, e4⟩
    exact ⟨rfl, stp⟩
  refine cnt TBok 8 [] 7 l.length (fun i u => ∃ L, StoP w.heap.size u b gs N L ∧ (∀ x ∈ L, ∃ j, ∃ hj : j < l.length, l[j].x.key.slot = x.key.slot) ∧ Stp w u) rfl rfl ⟨_, S, by simp, stp⟩ ?_
  rintro i g u hi ⟨L, Su, hL, e⟩
  refine ite (fun hlt => ?_) (fun hge => ?_)
  · have hka : i < l.length := by omega
    refine rix (h.up (w' := u)) (x := l[i]) (by simp) fun b4 o4 A4 => rloadA A4 rfl ?_
    refine rcall (l15_do_sp (o := l[i]) Su) ?_
    rintro v u1 ⟨S1, f1⟩
    have s1 : Stp w u1 := f1.stp (Nat.le_refl _) hgs
    exact rar (by omega) ⟨rfl, hka, _, S1, doSS_slots (P := fun s => ∃ j, ∃ hj : j < l.length, l[j].x.key.slot = s) hL ⟨i, hka, rfl⟩, stp⟩
  refine cnt TBok 9 [] 8 l.length (fun i x => ∃ L, StoP w.heap.size x b gs N L ∧ (∀ y ∈ L, ∃ j, i ≤ j ∧ ∃ hj : j < l.length, l[j].x.key.slot = y.key.slot) ∧ Stp w x) rfl rfl ⟨_, Su, fun y hy => by obtain ⟨j, hj, q⟩ := hL y hy; exact ⟨j, Nat.zero_le _, hj, q⟩, stp⟩ ?_
  rintro i2 g2 u2 hi2 ⟨L2, S2, hL2, e2⟩
  refine ite (fun hlt => ?_) (fun hge2 => ?_)
  · have hka : i2 < l.length := by omega
    refine rix (h.up (w' := u2)) (x := l[i2]) (by simp) fun b4 o4 A4 => rload1 (A4.cell 1 rfl) ?_
    refine rcall (store_Drop_sp (s := l[i2].x.key.slot) S2) ?_
    rintro v u3 ⟨rfl, S3, f3⟩
    have s3 : Stp w u3 := f3.stp (Nat.le_refl _) hgs
    refine rar (by omega) ⟨rfl, hka, _, S3, fun y hy => ?_, stp⟩
    have hy' := List.mem_filter.1 (show y ∈ List.filter _ _ from hy)
    have q_ := hL2 y hy'.1
    obtain ⟨j, hj, hjl, q⟩ := q_
    refine ⟨j, ?_, hjl, q⟩
    have q_ := Nat.lt_or_ge i2 j
    rcases q_ with h' | h'
    · omega
    · have q_ : j = i2 := by omega
      obtain rfl := q_
      have := hy'.2
      simp at this; exact absurd q.symm this
  have q_ : i2 = l.length := by omega
  obtain rfl := q_
  have hL0 : L2 = [] := by
    cases L2 with
    | nil => rfl
    | cons y r => obtain ⟨j, hj, hjl, _⟩ := hL2 y (List.mem_cons_self ..); omega
  subst hL0
  refine rcall (store_Live_sp S2) ?_
  rintro v u3 ⟨rfl, e3⟩
  refine ite (fun h => absurd rfl h) (fun _ => ?_)
  refine rcall (store_Free_sp (S2.up (w' := u3))) ?_
  rintro v u4 ⟨rfl, e4⟩
  refine ite (fun h => absurd (by simp) h) (fun _ => ?_)
  refine cnt TBok 10 [4] 9 N (fun i x => ∃ L, StoP w.heap.size x b gs N L ∧ FirstK L i ∧ Stp w x) rfl rfl ⟨[], S2.up, ⟨rfl, by simp⟩, stp⟩ ?_
  rintro i5 g5 u5 hi5 ⟨L5, S5, K5, e5⟩
  refine ite (fun hlt => ?_) (fun hge5 => ?_)
  · have hka : i5 < N := by omega
    refine rdivQ (q := ((i5 / 200 : Nat) : Int)) (by omega) (by decide) (by omega) (by omega) ?_
    refine rremQ (q := ((i5 % 200 : Nat) : Int)) (by omega) (by decide) (by omega) ?_
    refine rbuild (cs := enc (kq i5).key) rfl ?_
    refine rbuild (cs := enc (kq i5)) rfl ?_
    have KP := K5.put hka hN2
    have P := store_Put_sp (x := kq i5) S5
    rw [KP.1] at P
    refine rcall P ?_
    rintro v u6 ⟨rfl, S6, f6⟩
    have s6 : Stp w u6 := f6.stp (Nat.le_refl _) hgs
    refine ite (fun h => absurd rfl h) (fun _ => ?_)
    exact rar (by omega) ⟨rfl, hka, _, S6, KP.2, stp⟩
  · have q_ : i5 = N := by omega
    obtain rfl := q_
    refine rcall (l15_stored_sp) ?_
    rintro v u6 ⟨rfl, e6⟩
    refine rbuild (cs := enc (⟨1000, 0, 0⟩ : KeyD)) rfl ?_
    refine rbuild (cs := enc (⟨⟨1000, 0, 0⟩, 0⟩ : StD)) rfl ?_
    have P := store_Put_sp (x := ⟨⟨1000, 0, 0⟩, 0⟩) (S5.up (w' := u6))
    rw [K5.full hN2] at P
    refine rcall P ?_
    rintro v u7 ⟨rfl, S7, f7⟩
    have s7 : Stp w u7 := f7.stp (Nat.le_refl _) hgs
    refine ite (fun _ => ?_) (fun h => absurd rfl h)
    exact ⟨rfl, stp⟩
end Go.W

namespace Go.W
open Go Go.Proofs
open Enc (enc)
set_option maxRecDepth 10000

theorem StoP.glt {B : Nat} {w : World} {b gs size : Nat} {L : List StD} (h : StoP B w b gs size L) : gs < w.heap.size := by
  have hl := h.lt
  obtain ⟨bt, ta, tc, ts, fa, fc, fr, sc, st, bm, m, ch, H, T, _⟩ := h
  have := H.sts.lt (by intro h; have := T.stl; rw [h] at this; simp at this; omega)
  obtain ⟨g, h1, _, h2⟩ := this
  have hge : gs = g := Option.some.inj h1
  omega
theorem of_drop_same (L : List StD) (s : Int) : ofS (dropS L s) s = [] := by
  unfold ofS dropS
  rw [List.filter_filter, List.filter_eq_nil_iff]
  intro x _; simp
theorem of_drop_other (L : List StD) {s o : Int} (h : s ≠ o) : ofS (dropS L s) o = ofS L o := by
  unfold ofS dropS
  rw [List.filter_filter]
  apply List.filter_congr
  intro x _
  by_cases e : x.key.slot = o
  · simp [e, Ne.symm h]
  · simp [e]

set_option maxHeartbeats 1000000 in
theorem l15_StoreSlots_sp {size slot other : Int} {a0 : Option Addr} {n0 c0 : Nat} {l : List SStep} {w : World} (h : SlF w (.slice a0 n0 c0) l) :
    Sp Try.prog F.l15_StoreSlots #[.int .i64 size, .slice a0 n0 c0, .int .i64 slot, .int .i64 other] w fun v w' => v = .bool true ∧ Stp w w' := by
  have q_ := h.len
  obtain rfl := q_
  refine en TBok rfl ?_
  refine rcall (store_New_sp (size := size) (w := w)) ?_
  rintro v w1 ⟨⟨_, rfl⟩ | ⟨N, b, gs, rfl, hN1, hN2, rfl, S, _⟩, e1⟩
  · refine rpnil ?_
    refine rcall (l15_stored_sp) ?_
    rintro v w4 ⟨rfl, e4⟩
    exact ⟨rfl, stp⟩
  have hgs := S.lt.2.2.1
  refine rpnil ?_
  refine ite (fun h => absurd rfl h) (fun _ => ?_)
  refine ite (fun h1 => ?_) (fun h1 => ?_)
  · refine rcall (l15_stored_sp) ?_
    rintro v w4 ⟨rfl, e4⟩
    exact ⟨rfl, stp⟩
  refine ite (fun h2 => ?_) (fun hne => ?_)
  · refine rcall (l15_stored_sp) ?_
    rintro v w4 ⟨rfl, e4⟩
    exact ⟨rfl, stp⟩
  refine cnt TBok 12 [] 11 l.length (fun i u => ∃ L, StoP w.heap.size u b gs N L ∧ Stp w u) rfl rfl ⟨_, S, stp⟩ ?_
  rintro i g u hi ⟨L, Su, e⟩
  refine ite (fun hlt => ?_) (fun hge => ?_)
  · have hka : i < l.length := by omega
    refine rix (h.up (w' := u)) (x := l[i]) (by simp) fun b4 o4 A4 => rloadA A4 rfl ?_
    refine rcall (l15_do_sp (o := l[i]) Su) ?_
    rintro v u1 ⟨S1, f1⟩
    have s1 : Stp w u1 := f1.stp (Nat.le_refl _) hgs
    exact rar (by omega) ⟨rfl, hka, _, S1, stp⟩
  have hll := Su.lt
  have hgl := Su.glt
  have hdc := drop_count L slot
  have hol : (ofS L other).length ≤ L.length := List.length_filter_le _ _
  refine rcall (store_Of_sp (s := other) Su) ?_
  rintro v u1 ⟨Oa, e1'⟩
  have q_ := Oa.shape
  obtain ⟨aa, ac, rfl⟩ := q_
  refine rcall (store_Of_sp (s := slot) (Su.up (w' := u1))) ?_
  rintro v u2 ⟨Ob, e2⟩
  have q_ := Ob.shape
  obtain ⟨ba, bc, rfl⟩ := q_
  refine rcall (store_Live_sp (Su.up (w' := u2))) ?_
  rintro v u3 ⟨rfl, e3⟩
  refine rcall (store_Drop_sp (s := slot) (Su.up (w' := u3))) ?_
  rintro v u4 ⟨rfl, S4, f4⟩
  have s4 : Stp w u4 := f4.stp (Nat.le_refl _) hgs
  have Oa4 := (Oa.up (w' := u3)).keptX f4 (fun g hg _ => by omega) (by decide)
  refine rcall (store_Of_sp (s := other) S4) ?_
  rintro v u5 ⟨Oc, e5⟩
  rw [of_drop_other L hne] at Oc
  have q_ := Oc.shape
  obtain ⟨ca, cc, rfl⟩ := q_
  refine rcall (l15_stored_sp) ?_
  rintro v u6 ⟨rfl, e6⟩
  refine ite (fun _ => ?_) (fun h => absurd rfl h)
  refine rcall (store_Of_sp (s := slot) (S4.up (w' := u6))) ?_
  rintro v u7 ⟨Od, e7⟩
  rw [of_drop_same] at Od
  have q_ := Od.shape
  obtain ⟨da, dc, rfl⟩ := q_
  refine ite (fun _ => ?_) (fun h => absurd rfl h)
  refine rcall (r15_Same_sp (Oa4.sl.up (w' := u7)) (Oc.sl.up (w' := u7)) (by omega)) ?_
  rintro v u8 ⟨⟨rfl, _⟩ | ⟨rfl, hh⟩, e8⟩
  case' inr => exact absurd rfl hh
  refine rcall (store_Live_sp (S4.up (w' := u8))) ?_
  rintro v u9 ⟨rfl, e9⟩
  refine rar (by omega) ?_
  refine ite (fun _ => ?_) (fun h => absurd (by omega) h)
  refine rcall (store_Live_sp (S4.up (w' := u9))) ?_
  rintro v u10 ⟨rfl, e10⟩
  refine rcall (store_Free_sp (S4.up (w' := u10))) ?_
  rintro v u11 ⟨rfl, e11⟩
  refine rar (by omega) ?_
  refine ite (fun _ => ⟨rfl, stp⟩) (fun h => absurd (by omega) h)

set_option maxHeartbeats 1000000 in
theorem l15_StoreRuns_sp {size : Int} {a0 : Option Addr} {n0 c0 : Nat} {l : List SStep} {w : World} (h : SlF w (.slice a0 n0 c0) l) :
    Sp Try.prog F.l15_StoreRuns #[.int .i64 size, .slice a0 n0 c0] w fun v w' => v = .bool true ∧ Stp w w' := by
  have q_ := h.len
  obtain rfl := q_
  refine en TBok rfl ?_
  refine rcall (store_New_sp (size := size) (w := w)) ?_
  rintro v w3 ⟨⟨hm, rfl⟩ | ⟨N, b, gs, rfl, hN1, hN2, rfl, S, hg3⟩, e3⟩
  · refine rpnil ?_
    refine rcall (l15_stored_sp) ?_
    rintro v w4 ⟨rfl, e4⟩
    refine rpnnil ?_
    refine ite (fun _ => ?_) (fun h => absurd rfl h)
    refine ite (fun h => absurd h (by first | omega | decide | (dsimp only <;> omega))) (fun _ => ?_)
    refine ite (fun h1 => ?_) (fun h1 => ?_)
    · refine ite (fun h => absurd h (by first | omega | decide | (dsimp only <;> omega))) (fun _ => ?_)
      refine rbeq (fun _ => ⟨rfl, stp⟩) (fun h => absurd rfl h)
    · refine rbeq (fun _ => ⟨rfl, stp⟩) (fun h => absurd rfl h)
  have hgs := S.lt.2.2.1
  refine rpnil ?_
  refine ite (fun h => absurd rfl h) (fun _ => ?_)
  refine ite (fun h1 => ?_) (fun h1 => ?_)
  · refine rcall (l15_stored_sp) ?_
    rintro v w4 ⟨rfl, e4⟩
    refine rpnnil ?_
    refine ite (fun _ => ?_) (fun h => absurd rfl h)
    refine ite (fun _ => ?_) (fun h => absurd (by first | omega | decide | (dsimp only <;> omega)) h)
    refine ite (fun _ => ?_) (fun h => absurd (by first | omega | decide | (dsimp only <;> omega)) h)
    refine rbeq (fun _ => ⟨rfl, stp⟩) (fun h => absurd rfl h)
  refine rbuild (cs := [.slice none 0 0, .int .i64 (N : Nat)]) rfl ?_
  refine rbx fun bm w4 n4 B4 => ?_
  have RT : RSt w3.heap.size w4 bm N [] := ⟨n4.lo, .nil, by simp, none, 0, B4, Own.nil _ _ _⟩
  have hw3 := Le.size (a := w) (b := w3)
  have rsn : ∀ e ∈ (E.api_State :: psE), e ∉ rsE := by decide
  refine cnt TBok 9 [4] 8 l.length (fun i u => ∃ L, StoP w.heap.size u b gs N L ∧ RSt w3.heap.size u bm N L ∧ Stp w u ∧ w3.heap.size ≤ u.heap.size) rfl rfl ⟨_, S.up, RT, stp, Le.size⟩ ?_
  rintro i g u hi ⟨L, Ss, Rs, e, hu3⟩
  refine ite (fun hlt => ?_) (fun hge => ?_)
  · have hka : i < l.length := by omega
    refine rix (h.up (w' := u)) (x := l[i]) (by simp) fun b4 o4 A4 => rloadA A4 rfl ?_
    refine ral fun b5 u5 n5 z5 => ?_
    refine rsto (B := z5) (vs := enc l[i]) rfl rfl rfl (Enc.one _) fun u6 B6 f6 _ => ?_
    have s6 : Stp u u6 := ⟨Fr.st Le.e f6 fun i hi => by subst hi; exact n5.lo⟩
    have S6 := Ss.up (w' := u6)
    have R6 := Rs.up (w' := u6)
    have hb5 : b5 ≠ gs := by have := n5.lo (u := u); omega
    have hu6 : w3.heap.size ≤ u6.heap.size := Nat.le_trans hu3 (Le.size (a := u) (b := u6))
    clear z5 f6
    have sB6 : Bk u6 b5 (enc l[i]) E.waysideref15_Op := B6
    clear B6
    refine rld (B := sB6) rfl ?_
    refine ite (fun h1 => ?p1) (fun h1 => ?q1)
    case' q1 =>
      refine ite (fun h2 => ?p2) (fun h2 => ?q2)
      case' q2 =>
        refine ite (fun h3 => ?p3) (fun h3 => ?q3)
        case' q3 =>
          refine ite (fun h4 => ?p4) (fun h4 => ?p5)
    case' p1 =>
      refine drawR TBok mixed (fun i => i ≠ b5) [0,1,2,4,5,6,3,7,8] (by kernel_rfl) fun u7 e7 _ => ?_
      refine tldG (ds := enc l[i].x) (B := sB6) rfl rfl (fun h => h rfl) ?_
      refine tldG (ds := enc l[i].x) (B := sB6) rfl rfl (fun h => h rfl) ?_
      refine rcall (store_Put_sp (x := l[i].x) (S6.up (w' := u7))) ?_
      rintro v u8 ⟨rfl, S8, f8⟩
      have B8 := (sB6.mv (w := u7)).keptX f8 hb5 (by decide)
      have R8 := (R6.up (w' := u7)).kept f8 hg3
      refine ⟨f8.ne (sB6.mv (w := u7)) (by decide) hb5, ?_⟩
      have s8 : Stp w u8 := f8.stp (Nat.le_refl _) hgs
      refine rcall (r15_Put_sp (x := l[i].x) hN2 R8) ?_
      rintro v u9 ⟨rfl, R9, f9⟩
      refine ⟨f9.ne B8 (by decide), ?_⟩
      have S9 := S8.kept f9 rsn
      have s9 : Stp w u9 := ⟨FrT.st Le.e f9 hw3⟩
      have hu9 : w3.heap.size ≤ u9.heap.size := by have := f9.size; have := f8.size; have := Le.size (a := u6) (b := u7); omega
      clear S8 R8 f8 f9 s8
      refine ite (fun h => absurd rfl h) (fun _ => ?_)
    case' p2 =>
      refine rldG (ds := enc l[i].x.key) (B := sB6) rfl rfl ?_
      refine rcall (store_Get_sp (k := l[i].x.key) S6) ?_
      rintro v u8 ⟨rfl, e8⟩
      refine rldG (ds := enc l[i].x.key) (B := sB6) rfl rfl ?_
      refine rcall (r15_Get_sp (k := l[i].x.key) (R6.up (w' := u8)) (by omega)) ?_
      rintro v u9 ⟨rfl, e9⟩
      have S9 := S6.up (w' := u9)
      have R9 := R6.up (w' := u9)
      have s9 : Stp w u9 := stp
      have hu9 : w3.heap.size ≤ u9.heap.size := Nat.le_trans hu6 (Le.size (a := u6) (b := u9))
      clear e8 e9
      refine ite (fun h => absurd rfl h) (fun _ => ?_)
      refine rbne (fun h => absurd rfl h) (fun _ => ?_)
    case' p3 =>
      refine drawR TBok mixed (fun i => i ≠ b5) [0,1,2,3,4,6,7,8,9,10,5,11,12,13] (by kernel_rfl) fun u7 e7 _ => ?_
      refine tld (B := sB6) rfl (fun h => h rfl) ?_
      refine tld (B := sB6) rfl (fun h => h rfl) ?_
      refine rcall (store_Of_sp (s := l[i].x.key.slot) (S6.up (w' := u7))) ?_
      rintro v u8 ⟨O8, e8⟩
      refine ⟨Fr.fr e8.e, ?_⟩
      refine rcall (r15_Of_sp (s := l[i].x.key.slot) (R6.up (w' := u8)) (by omega)) ?_
      rintro v2 u9 ⟨O9, e9⟩
      refine ⟨Fr.fr e9.e, ?_⟩
      have hol : (ofS L l[i].x.key.slot).length ≤ L.length := List.length_filter_le _ _
      have hLl := Ss.lt.2.2.2.1
      have q_ := O8.shape
      obtain ⟨a8, c8, rfl⟩ := q_
      have q_ := O9.shape
      obtain ⟨a9, c9, rfl⟩ := q_
      refine rcall (r15_Same_sp (O8.sl.up (w' := u9)) O9.sl (by omega)) ?_
      rintro v3 u10 ⟨⟨rfl, _⟩ | ⟨rfl, hh⟩, e10⟩
      case' inr => exact absurd rfl hh
      refine ⟨Fr.fr e10.e, ?_⟩
      have S9 := S6.up (w' := u10)
      have R9 := R6.up (w' := u10)
      have s9 : Stp w u10 := stp
      have hu9 : w3.heap.size ≤ u10.heap.size := Nat.le_trans hu6 (Le.size (a := u6) (b := u10))
    case' p4 =>
      refine drawR TBok mixed (fun i => i ≠ b5) [0,1,2,3,4,6,7,8,9,10,5,11,12] (by kernel_rfl) fun u7 e7 _ => ?_
      refine tld (B := sB6) rfl (fun h => h rfl) ?_
      refine tld (B := sB6) rfl (fun h => h rfl) ?_
      refine rcall (store_Drop_sp (s := l[i].x.key.slot) (S6.up (w' := u7))) ?_
      rintro v u8 ⟨rfl, S8, f8⟩
      have B8 := (sB6.mv (w := u7)).keptX f8 hb5 (by decide)
      have R8 := (R6.up (w' := u7)).kept f8 hg3
      refine ⟨f8.ne (sB6.mv (w := u7)) (by decide) hb5, ?_⟩
      have s8 : Stp w u8 := f8.stp (Nat.le_refl _) hgs
      refine rcall (r15_Drop_sp (s := l[i].x.key.slot) R8 (by omega)) ?_
      rintro v u9 ⟨rfl, R9, f9⟩
      refine ⟨f9.ne B8 (by decide), ?_⟩
      have S9 := S8.kept f9 rsn
      have s9 : Stp w u9 := ⟨FrT.st Le.e f9 hw3⟩
      have hu9 : w3.heap.size ≤ u9.heap.size := by have := f9.size; have := f8.size; have := Le.size (a := u6) (b := u7); omega
      clear S8 R8 f8 f9 s8
      refine ite (fun h => absurd rfl h) (fun _ => ?_)
    case' p5 =>
      have S9 := S6
      have R9 := R6
      have s9 : Stp w u6 := stp
      have hu9 := hu6
    all_goals
      refine drawR TBok mixed (fun _ => False) [0,2,3,4,5,6,1,7,8,9,11,12,13,14,15,16,17,10,18,19] (by kernel_rfl) fun v1 g1 _ => ?_
      have RR := R9.up (w' := v1)
      obtain ⟨_, _, hLN, a1, c1, C1, _⟩ := RR
      refine tld (B := C1) rfl not_false ?_
      refine rcall (store_Live_sp (S9.up (w' := v1))) ?_
      rintro v v2 ⟨rfl, e2⟩
      refine ⟨e2.e, ?_⟩
      refine ite (fun h => absurd rfl h) (fun _ => ?_)
      refine tld (B := C1) rfl not_false ?_
      refine rar (by omega) ?_
      refine rcall (store_Free_sp (S9.up (w' := v2))) ?_
      rintro v v3 ⟨rfl, e3'⟩
      refine ⟨e3'.e, ?_⟩
      refine ite (fun h => absurd (by omega) h) (fun _ => ?_)
      exact rar (by omega) ⟨rfl, hka, _, S9.up, R9.up, stp, Nat.le_trans hu9 (Le.size (b := v3))⟩
  · refine rcall (l15_stored_sp) ?_
    rintro v v2 ⟨rfl, e2⟩
    exact ⟨rfl, stp⟩

/-- those of the first i slots -/
def cov (L : List StD) (l : List SStep) (i : Nat) : List StD := L.filter fun x => decide (∃ j, j < i ∧ ∃ hj : j < l.length, l[j].x.key.slot = x.key.slot)
theorem cov_len (L : List StD) (l : List SStep) (i : Nat) : (cov L l i).length ≤ L.length := List.length_filter_le _ _
theorem cov_succ {L : List StD} {l : List SStep} {i : Nat} (hi : i < l.length) :
    (cov L l (i + 1)).length = if ∃ j, j < i ∧ ∃ hj : j < l.length, l[j].x.key.slot = l[i].x.key.slot then (cov L l i).length else (cov L l i).length + (ofS L l[i].x.key.slot).length := by
  have key : ∀ s, (∃ j, j < i + 1 ∧ ∃ hj : j < l.length, l[j].x.key.slot = s) ↔ (∃ j, j < i ∧ ∃ hj : j < l.length, l[j].x.key.slot = s) ∨ l[i].x.key.slot = s := by
    intro s
    constructor
    · rintro ⟨j, hj, hjl, e⟩
      have q_ := Nat.lt_or_ge j i
      rcases q_ with h | h
      · exact .inl ⟨j, h, hjl, e⟩
      · have q_ : j = i := by omega
        obtain rfl := q_
        exact .inr e
    · rintro (⟨j, hj, hjl, e⟩ | e)
      · exact ⟨j, by omega, hjl, e⟩
      · exact ⟨i, by omega, hi, e⟩
  split
  · rename_i h
    congr 1
    unfold cov
    apply List.filter_congr
    intro x _
    rw [decide_eq_decide, key]
    constructor
    · rintro (h' | e)
      · exact h'
      · obtain ⟨j, hj, hjl, e2⟩ := h; exact ⟨j, hj, hjl, e2.trans e⟩
    · exact .inl
  · rename_i h
    unfold cov ofS
    induction L with
    | nil => rfl
    | cons a r ih =>
      simp only [List.filter_cons]
      by_cases h1 : l[i].x.key.slot = a.key.slot
      · have h2 : ¬ ∃ j, j < i ∧ ∃ hj : j < l.length, l[j].x.key.slot = a.key.slot := by rw [← h1]; exact h
        rw [if_pos (by rw [decide_eq_true_eq, key]; exact .inr h1), if_neg (by rw [decide_eq_true_eq]; exact h2), if_pos (by rw [decide_eq_true_eq]; exact h1.symm)]
        simp only [List.length_cons, ih]; omega
      · by_cases h2 : ∃ j, j < i ∧ ∃ hj : j < l.length, l[j].x.key.slot = a.key.slot
        · rw [if_pos (by rw [decide_eq_true_eq, key]; exact .inl h2), if_pos (by rw [decide_eq_true_eq]; exact h2), if_neg (by rw [decide_eq_true_eq]; exact fun e => h1 e.symm)]
          simp only [List.length_cons, ih]; omega
        · rw [if_neg (by rw [decide_eq_true_eq, key]; exact fun h => h.elim h2 h1), if_neg (by rw [decide_eq_true_eq]; exact h2), if_neg (by rw [decide_eq_true_eq]; exact fun e => h1 e.symm)]
          exact ih
theorem cov_zero (L : List StD) (l : List SStep) : (cov L l 0).length = 0 := by
  unfold cov
  rw [List.length_eq_zero_iff, List.filter_eq_nil_iff]
  intro x _; simp
theorem cov_all {L : List StD} {l : List SStep} (h : ∀ x ∈ L, ∃ j, ∃ hj : j < l.length, l[j].x.key.slot = x.key.slot) : (cov L l l.length).length = L.length := by
  unfold cov
  rw [List.filter_eq_self.2]
  intro x hx
  have q_ := h x hx
  obtain ⟨j, hj, e⟩ := q_
  rw [decide_eq_true_eq]
  exact ⟨j, hj, hj, e⟩

set_option maxHeartbeats 1000000 in
theorem l15_StoreGets_sp {size : Int} {a0 : Option Addr} {n0 c0 : Nat} {l : List SStep} {w : World} (h : SlF w (.slice a0 n0 c0) l) :
    Sp Try.prog F.l15_StoreGets #[.int .i64 size, .slice a0 n0 c0] w fun v w' => v = .bool true ∧ Stp w w' := by
  have q_ := h.len
  obtain rfl := q_
  refine en TBok rfl ?_
  refine rcall (store_New_sp (size := size) (w := w)) ?_
  rintro v w1 ⟨⟨_, rfl⟩ | ⟨N, b, gs, rfl, hN1, hN2, rfl, S, _⟩, e1⟩
  · refine rpnil ?_
    refine rcall (l15_stored_sp) ?_
    rintro v w4 ⟨rfl, e4⟩
    exact ⟨rfl, stp⟩
  have hgs := S.lt.2.2.1
  refine rpnil ?_
  refine ite (fun h => absurd rfl h) (fun _ => ?_)
  refine ite (fun h1 => ?_) (fun h1 => ?_)
  · refine rcall (l15_stored_sp) ?_
    rintro v w4 ⟨rfl, e4⟩
    exact ⟨rfl, stp⟩
  refine cnt TBok 8 [] 7 l.length (fun i u => ∃ L, StoP w.heap.size u b gs N L ∧ (∀ x ∈ L, ∃ j, ∃ hj : j < l.length, l[j].x.key.slot = x.key.slot) ∧ Stp w u) rfl rfl ⟨_, S, by simp, stp⟩ ?_
  rintro i g u hi ⟨L, Su, hL, e⟩
  refine ite (fun hlt => ?_) (fun hge => ?_)
  · have hka : i < l.length := by omega
    refine rix (h.up (w' := u)) (x := l[i]) (by simp) fun b4 o4 A4 => rloadA A4 rfl ?_
    refine rcall (l15_do_sp (o := l[i]) Su) ?_
    rintro v u1 ⟨S1, f1⟩
    have s1 : Stp w u1 := f1.stp (Nat.le_refl _) hgs
    exact rar (by omega) ⟨rfl, hka, _, S1, doSS_slots (P := fun s => ∃ j, ∃ hj : j < l.length, l[j].x.key.slot = s) hL ⟨i, hka, rfl⟩, stp⟩
  have hlt0 := Su.lt
  obtain ⟨_, _, _, hLN, hris, _, _⟩ := hlt0
  refine cnt1 TBok 10 [4] 8 9 l.length (fun i v x => v = .int .i64 ((cov L l i).length : Nat) ∧ Stp u x) rfl rfl ⟨by rw [cov_zero]; rfl, stp⟩ ?_
  rintro i2 _ g2 u2 hi2 ⟨rfl, e2⟩
  have hcl := cov_len L l i2
  refine ite (fun hlt => ?_) (fun hge2 => ?_)
  · have hka : i2 < l.length := by omega
    have hcs := cov_succ (L := L) hka
    refine rix (h.up (w' := u2)) (x := l[i2]) (by simp) fun b4 o4 A4 => rload1 (A4.cell 1 rfl) ?_
    refine cnt1 TBok 13 [] 11 12 i2 (fun j v x => (∃ q : Bool, v = .bool q ∧ (q = true ↔ ∃ j', j' < j ∧ ∃ hj : j' < l.length, l[j'].x.key.slot = l[i2].x.key.slot)) ∧ Stp u2 x) rfl rfl ⟨⟨false, rfl, by simp⟩, stp⟩ ?_
    rintro j _ g3 u3 hj ⟨⟨q, rfl, hq⟩, e3⟩
    refine ite (fun hlt3 => ?_) (fun hge3 => ?_)
    · have hjl : j < l.length := by omega
      have hnext : (∃ j', j' < j + 1 ∧ ∃ hj : j' < l.length, l[j'].x.key.slot = l[i2].x.key.slot) ↔ (∃ j', j' < j ∧ ∃ hj : j' < l.length, l[j'].x.key.slot = l[i2].x.key.slot) ∨ l[j].x.key.slot = l[i2].x.key.slot := by
        constructor
        · rintro ⟨j', h1, h2, h3⟩
          have q_ := Nat.lt_or_ge j' j
          rcases q_ with h | h
          · exact .inl ⟨j', h, h2, h3⟩
          · have q_ : j' = j := by omega
            obtain rfl := q_
            exact .inr h3
        · rintro (⟨j', h1, h2, h3⟩ | h3)
          · exact ⟨j', by omega, h2, h3⟩
          · exact ⟨j, by omega, hjl, h3⟩
      cases q
      · refine rix (h.up (w' := u3)) (x := l[j]) (by simp) fun b5 o5 A5 => rload1 (A5.cell 1 rfl) ?_
        refine ite (fun he => ?_) (fun hne => ?_)
        · exact rar (by omega) ⟨rfl, by omega, ⟨true, rfl, by rw [hnext]; exact Iff.intro (fun _ => .inr he) (fun _ => rfl)⟩, stp⟩
        · exact rar (by omega) ⟨rfl, by omega, ⟨false, rfl, by rw [hnext]; exact Iff.intro (fun h => (by cases h)) (fun h => h.elim hq.2 (fun h => absurd h hne))⟩, stp⟩
      · exact rar (by omega) ⟨rfl, by omega, ⟨true, rfl, by rw [hnext]; exact Iff.intro (fun _ => .inl (hq.1 rfl)) (fun _ => rfl)⟩, stp⟩
    · have q_ : j = i2 := by omega
      obtain rfl := q_
      cases q
      case' true =>
        rw [if_pos (hq.1 rfl)] at hcs
        have hcv : Value.int .i64 ((cov L l j).length : Nat) = Value.int .i64 ((cov L l (j + 1)).length : Nat) := by rw [hcs]
        exact rar (by omega) ⟨rfl, hka, hcv, stp⟩
      rw [if_neg (fun h => by have := hq.2 h; cases this)] at hcs
      have S3 := Su.up (w' := u3)
      refine rcall (store_Of_sp (s := l[j].x.key.slot) S3) ?_
      rintro v u4 ⟨O4, e4⟩
      have hol : (ofS L l[j].x.key.slot).length ≤ L.length := List.length_filter_le _ _
      have hLo : ∀ y ∈ ofS L l[j].x.key.slot, y.key.slot = l[j].x.key.slot ∧ getS' L y.key = (y.d, true) := by
        intro y hy
        have hm := List.mem_filter.1 hy
        refine And.intro (by simpa using hm.2) ?_
        unfold getS'; rw [(hasS_some hris).2 ⟨hm.1, rfl⟩]
      have q_ : ∃ Lo, Lo = ofS L l[j].x.key.slot := ⟨_, rfl⟩
      obtain ⟨Lo, hlo⟩ := q_
      rw [← hlo] at O4 hol hLo hcs
      clear hlo
      have hy1 : (((cov L l j).length : Nat) : Int) + ((Lo.length : Nat) : Int) = (((cov L l (j + 1)).length : Nat) : Int) := by omega
      have q_ : ∃ c1, c1 = (cov L l (j + 1)).length := ⟨_, rfl⟩
      obtain ⟨c1, hc1⟩ := q_
      rw [← hc1] at hy1 hcs
      have hc1L : c1 ≤ L.length := by rw [hc1]; exact cov_len _ _ _
      have hcv : Value.int .i64 (c1 : Nat) = Value.int .i64 ((cov L l (j + 1)).length : Nat) := by rw [hc1]
      clear hc1
      have q_ := O4.shape
      obtain ⟨oa, oc, rfl⟩ := q_
      refine rarE (y := (c1 : Int)) hy1 (by omega) ?_
      refine cnt TBok 15 [4] 14 Lo.length (fun _ x => Stp u4 x) rfl rfl stp ?_
      rintro k g5 u5 hk e5
      refine ite (fun hlt5 => ?_) (fun hge5 => ?_)
      · have hkl : k < Lo.length := by omega
        have q_ : ∃ y, y = Lo[k] := ⟨_, rfl⟩
        obtain ⟨y, hy⟩ := q_
        have hyk : Lo[k]? = some y := by rw [hy]; simp
        have hym : y ∈ Lo := by rw [hy]; exact List.getElem_mem hkl
        have hyL := hLo y hym
        clear hy
        refine rix (O4.sl.up (w' := u5)) (x := y) hyk fun b6 o6 A6 => rloadA (cs := enc y.key) (A6.sub 0 3) rfl ?_
        have G := store_Get_sp (k := y.key) (Su.up (w' := u5))
        rw [hyL.2] at G
        refine rcall G ?_
        rintro v u6 ⟨rfl, e6⟩
        refine rix (O4.sl.up (w' := u6)) (x := y) hyk fun b7 o7 A7 => rload1 (A7.cell 3 rfl) ?_
        refine ite (fun h => absurd rfl h) (fun _ => ?_)
        refine rix (O4.sl.up (w' := u6)) (x := y) hyk fun b8 o8 A8 => rload1 (A8.cell0 rfl) ?_
        refine ite (fun h => absurd hyL.1 h) (fun _ => ?_)
        exact rar (by omega) ⟨rfl, hkl, stp⟩
      · exact rar (by omega) ⟨rfl, hka, hcv, stp⟩
  · have q_ : i2 = l.length := by omega
    obtain rfl := q_
    have hca := cov_all hL
    refine rcall (l15_stored_sp) ?_
    rintro v u3 ⟨rfl, e3⟩
    refine rcall (store_Live_sp (Su.up (w' := u3))) ?_
    rintro v u4 ⟨rfl, e4⟩
    refine ite (fun _ => ⟨rfl, stp⟩) (fun h => absurd (by omega) h)
end Go.W
