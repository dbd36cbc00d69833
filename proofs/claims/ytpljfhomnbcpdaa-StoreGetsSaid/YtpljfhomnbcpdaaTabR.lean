/-
  Proved here: tables as the reference has them: keys compared, found, put, got, dropped (contracts).
  Conditions: the table lies in memory as is said at each.
-/
import Derived.Test.YtpljfhomnbcpdaaTabR0
import Derived.Test.YtpljfhomnbcpdaaTabL
import Derived.Test.YtpljfhomnbcpdaaW22
namespace Go.W
open Go Go.Proofs
open Enc (enc)
set_option maxRecDepth 10000

theorem r14_Less_sp {a b : KeyD} {w : World} : Sp Try.prog F.r14_Less #[agg a, agg b] w fun v w' => Tells (lessK a b) v ∧ Stp w w' := by
  refine en TBok rfl ?_
  refine rbx fun ba w1 n1 B1 => rbx fun bb w2 n2 B2 => ?_
  refine rld (B := B1) rfl (rld (B := B2) rfl ?_)
  refine ite (fun h1 => ⟨.t (.inl h1), stp⟩) (fun h1 => ?_)
  refine rld (B := B1) rfl (rld (B := B2) rfl ?_)
  refine ite (fun h2 => ?_) (fun h2 => ⟨.f fun h => by unfold lessK at h; omega, stp⟩)
  refine rld (B := B1) rfl (rld (B := B2) rfl ?_)
  refine ite (fun h3 => ⟨.t (.inr ⟨h2, .inl h3⟩), stp⟩) (fun h3 => ?_)
  refine rld (B := B1) rfl (rld (B := B2) rfl ?_)
  refine ite (fun h4 => ?_) (fun h4 => ⟨.f fun h => by unfold lessK at h; omega, stp⟩)
  refine rld (B := B1) rfl (rld (B := B2) rfl ?_)
  refine ite (fun h5 => ⟨.t (.inr ⟨h2, .inr ⟨h4, h5⟩⟩), stp⟩) (fun h5 => ⟨.f fun h => by unfold lessK at h; omega, stp⟩)

theorem r14_May_sp {k : KeyD} {w : World} : Sp Try.prog F.r14_May #[agg k] w fun v w' => Tells (mayK k) v ∧ Stp w w' := by
  refine en TBok rfl ?_
  refine rbx fun b w1 n1 B1 => ?_
  refine rld rfl ?_
  refine ite (fun h1 => ?_) (fun h1 => ⟨.f fun m => h1 m.1, stp⟩)
  refine rld rfl ?_
  refine ite (fun h2 => ?_) (fun h2 => ⟨.f fun m => h2 m.2.1, stp⟩)
  refine rld rfl ?_
  refine ite (fun h3 => ?pos) (fun h3 => ?neg)
  case' neg =>
    refine rld rfl ?_
    refine ite (fun h4 => ?one) (fun h4 => ⟨.f fun m => by have := m.2.2.1; omega, stp⟩)
  all_goals
    refine rld rfl ?_
    refine ite (fun h5 => ?_) (fun h5 => ⟨.f fun m => h5 m.2.2.2.1, stp⟩)
    refine rld rfl ?_
    refine ite (fun h6 => ?_) (fun h6 => ⟨.f fun m => h6 m.2.2.2.2, stp⟩)
    exact ⟨.t ⟨h1, h2, by omega, h5, h6⟩, stp⟩

/-! the reference's table in memory -/
structure RTabH (B : Nat) (w : World) (b most : Nat) (a1 a2 : Option Addr) (c1 c2 : Nat) (ks : List KeyD) (ns : List Int) : Prop where
  lo : B ≤ b
  cell : Bk w b [.slice a1 ks.length c1, .slice a2 ns.length c2, .int .i64 most] E.waysideref14_Table
  keys : Own B E.api_Key w (.slice a1 ks.length c1) ks
  nums : Own B E.int w (.slice a2 ns.length c2) ns
  len : ks.length ≤ 1000
  cap : ks.length ≤ most
  len2 : ns.length = ks.length
theorem RTabH.up {B : Nat} {w w' : World} [L : Le w w'] {b most : Nat} {a1 a2 : Option Addr} {c1 c2 : Nat} {ks : List KeyD} {ns : List Int} (h : RTabH B w b most a1 a2 c1 c2 ks ns) : RTabH B w' b most a1 a2 c1 c2 ks ns := ⟨h.lo, h.cell.mv, h.keys.up, h.nums.up, h.len, h.cap, h.len2⟩

theorem r14_at_sp {B b most : Nat} {a1 a2 : Option Addr} {c1 c2 : Nat} {ks : List KeyD} {ns : List Int} {k : KeyD} {w : World} (T : RTabH B w b most a1 a2 c1 c2 ks ns) :
    Sp Try.prog F.r14_Table_at #[.pointer (some ⟨b, 0, none⟩), agg k] w fun v w' => (∃ i : Nat, AtK ks k i ∧ ((∃ hi : i < ks.length, ks[i] = k) ∧ v = .tuple #[.int .i64 i, .bool true] ∨ (∀ hi : i < ks.length, ks[i] ≠ k) ∧ v = .tuple #[.int .i64 i, .bool false])) ∧ Stp w w' := by
  have hl := T.len
  refine en TBok rfl ?_
  refine rbx fun bk w1 n1 B1 => ?_
  refine cnt TBok 7 [] 6 ks.length (fun i u => (∀ j, j < i → (hj : j < ks.length) → lessK ks[j] k) ∧ Stp w1 u) rfl rfl ⟨by omega, stp⟩ ?_
  rintro i g u hi ⟨hb, e⟩
  have C := T.cell.mv (w := u)
  have O := T.keys.sl.up (w' := u)
  refine drawR TBok mixed (fun _ => False) (upF 18 0) (by kernel_rfl) fun u1 e1 _ => ?_
  refine tld (B := C) rfl not_false ?_
  refine ite (fun hlt => ?_) (fun hge => ?_)
  · have hka : i < ks.length := by omega
    refine tld (B := C) rfl not_false ?_
    refine tix (O.up (w' := u1)) (x := ks[i]) (by simp) fun b5 o5 A5 _ => tloadA A5 rfl not_false ?_
    refine tldG (ds := enc k) (B := B1) rfl rfl not_false ?_
    refine rcall (r14_Less_sp (a := ks[i]) (b := k)) ?_
    rintro v u2 ⟨⟨rfl, hless⟩ | ⟨rfl, hless⟩, e2⟩
    · refine ⟨e2.e, ?_⟩
      exact rar (by omega) ⟨rfl, hka, below2 hb fun _ => hless, stp⟩
    · refine ⟨e2.e, ?_⟩
      have A : AtK ks k i := ⟨hi, hb, fun _ => hless⟩
      refine drawR TBok mixed (fun _ => False) (upF 21 0) (by kernel_rfl) fun u3 e3 _ => ?_
      refine tld (B := C) rfl not_false ?_
      refine ite (fun _ => ?_) (fun h => absurd (by first | omega | decide | (dsimp only <;> omega)) h)
      refine tld (B := C) rfl not_false ?_
      refine tix (O.up (w' := u3)) (x := ks[i]) (by simp) fun b6 o6 A6 _ => tloadA A6 rfl not_false ?_
      refine tldG (ds := enc k) (B := B1) rfl rfl not_false ?_
      refine tgeq KeyD ks[i] k (fun he => ?_) (fun hne => ?_)
      · exact ⟨⟨i, A, .inl ⟨⟨hka, he⟩, rfl⟩⟩, stp⟩
      · exact ⟨⟨i, A, .inr ⟨fun _ => hne, rfl⟩⟩, stp⟩
  · have q_ : i = ks.length := by omega
    obtain rfl := q_
    have A : AtK ks k ks.length := ⟨hi, hb, fun h => absurd h (by omega)⟩
    refine drawR TBok mixed (fun _ => False) (upF 21 0) (by kernel_rfl) fun u3 e3 _ => ?_
    refine tld (B := C) rfl not_false ?_
    refine ite (fun h => absurd h (by first | omega | decide | (dsimp only <;> omega))) (fun _ => ?_)
    exact ⟨⟨ks.length, A, .inr ⟨fun h => absurd h (by omega), rfl⟩⟩, stp⟩

/-- the reference's table tells this -/
def RTab (B : Nat) (w : World) (b most : Nat) (s : TS) : Prop := ∃ a1 a2 c1 c2 ks ns, RTabH B w b most a1 a2 c1 c2 ks ns ∧ RefOf s ks ns
abbrev rtE : List TypeId := [E.int, E.waysideref14_Table]
theorem RTab.up {B : Nat} {w w' : World} [L : Le w w'] {b most : Nat} {s : TS} (h : RTab B w b most s) : RTab B w' b most s := by
  obtain ⟨a1, a2, c1, c2, ks, ns, h, r⟩ := h; exact ⟨a1, a2, c1, c2, ks, ns, h.up, r⟩
theorem RTab.kept {B C : Nat} {w w' : World} {es : List TypeId} {b most : Nat} {s : TS} (h : RTab B w b most s) (f : FrT C es w w') (h1 : E.waysideref14_Table ∉ es) (h2 : E.api_Key ∉ es) (h3 : E.int ∉ es) : RTab B w' b most s := by
  obtain ⟨a1, a2, c1, c2, ks, ns, h, r⟩ := h
  exact ⟨a1, a2, c1, c2, ks, ns, ⟨h.lo, h.cell.kept f h1, h.keys.kept f h2, h.nums.kept f h3, h.len, h.cap, h.len2⟩, r⟩

theorem r14_Get_sp {B b most : Nat} {s : TS} {k : KeyD} {w : World} (T : RTab B w b most s) :
    Sp Try.prog F.r14_Table_Get #[.pointer (some ⟨b, 0, none⟩), agg k] w fun v w' => v = .tuple #[.int .i64 (getTS s k).1, .bool (getTS s k).2] ∧ Stp w w' := by
  obtain ⟨a1, a2, c1, c2, ks, ns, T, R⟩ := T
  refine en TBok rfl ?_
  refine rbx fun bk w1 n1 B1 => ?_
  refine rldG (ds := enc k) (B := B1) rfl rfl ?_
  refine rcall (r14_at_sp (k := k) (T.up (w' := w1))) ?_
  rintro v w2 ⟨⟨i, A, ⟨⟨hi, hk⟩, rfl⟩ | ⟨hn, rfl⟩⟩, e2⟩
  · have q_ := R.get A
    rcases q_ with ⟨_, _, n, hn, hm⟩ | ⟨h, _⟩
    · have hg : getTS s k = (n, true) := by unfold getTS; rw [hm]
      rw [hg]
      have T2 := T.up (w' := w2)
      refine rld (B := T2.cell) rfl ?_
      refine rix T2.nums.sl (x := n) hn fun b5 o5 A5 => rload1 (A5.cell0 rfl) ?_
      exact ⟨rfl, stp⟩
    · exact absurd hk (h hi)
  · have q_ := R.get A
    rcases q_ with ⟨hi, hk, _⟩ | ⟨_, hm⟩
    · exact absurd hk (hn hi)
    · have hg : getTS s k = (0, false) := by unfold getTS; rw [hm]
      rw [hg]
      exact ⟨rfl, stp⟩

theorem sl_one (a : Option Addr) (n c : Nat) : ∀ u ∈ [Value.slice a n c], u.oneCell' = true := by intro u hu; simp at hu; subst hu; rfl
set_option maxHeartbeats 400000 in
theorem r14_Put_sp {B b most : Nat} {s : TS} {k : KeyD} {n : Int} {w : World} (hmost : most ≤ 400) (T : RTab B w b most s) :
    Sp Try.prog F.r14_Table_Put #[.pointer (some ⟨b, 0, none⟩), agg k, .int .i64 n] w fun v w' => v = .int .i64 (putTS most s k n).2 ∧ RTab B w' b most (putTS most s k n).1 ∧ FrT B rtE w w' := by
  have TT := T
  obtain ⟨a1, a2, c1, c2, ks, ns, T, R⟩ := T
  have hbl := T.cell.lt
  have hlo := T.lo
  refine en TBok rfl ?_
  refine rbx fun bk w1 n1 B1 => ?_
  refine rldG (ds := enc k) (B := B1) rfl rfl ?_
  refine rcall (r14_May_sp (k := k)) ?_
  rintro v w2 ⟨⟨rfl, hmay⟩ | ⟨rfl, hmay⟩, e2⟩
  case' inr =>
    have hp : putTS most s k n = (s, 1) := by unfold putTS; rw [if_neg hmay]
    rw [hp]
    exact ⟨rfl, TT.up, Fr.fr Le.e⟩
  refine rldG (ds := enc k) (B := B1) rfl rfl ?_
  refine rcall (r14_at_sp (k := k) (T.up (w' := w2))) ?_
  rintro v w3 ⟨⟨i, A, ⟨⟨hi, hk⟩, rfl⟩ | ⟨hn, rfl⟩⟩, e3⟩
  · have q_ := R.get A
    rcases q_ with ⟨_, _, n0, hn0, hm⟩ | ⟨h, _⟩
    case' inr => exact absurd hk (h hi)
    have hp : putTS most s k n = (⟨fun k' => if k' = k then some n else s.M k', s.u⟩, 0) := by unfold putTS; rw [if_pos hmay, hm]
    rw [hp]
    have T3 := T.up (w' := w3)
    have hin : i < ns.length := by rw [T.len2]; exact hi
    refine rld (B := T3.cell) rfl ?_
    refine rixO rfl T3.nums (x := n0) hn0 fun g hg _ A5 => ?_
    refine rstO' rfl n T3.nums hg hin rfl fun w4 O4 f4 _ => ?_
    have F4 : FrT B rtE w3 w4 := T3.nums.wrote f4 (Nat.le_refl _) (by decide)
    have C4 := T3.cell.fro T3.nums f4 (by decide)
    have K4 := T3.keys.fro T3.nums f4 (by decide)
    refine ⟨rfl, ⟨a1, a2, c1, c2, ks, ns.set i n, ⟨hlo, ?_, K4, ?_, T.len, T.cap, by simp [T.len2]⟩, R.set hi hk n s.u rfl⟩, (FrT.ext Le.e).trans F4⟩
    · rw [List.length_set]; exact C4
    · rw [List.length_set]; exact O4
  · have q_ := R.get A
    rcases q_ with ⟨hi, hk, _⟩ | ⟨_, hm⟩
    case' inl => exact absurd hk (hn hi)
    have hu := R.u
    have hl := T.len
    have hcap := T.cap
    have hl2 := T.len2
    have hle := A.le
    have T3 := T.up (w' := w3)
    refine drawR TBok mixed (fun _ => False) (upF 10 0) (by kernel_rfl) fun w4 e4 _ => ?_
    refine tld (B := T3.cell) rfl not_false (tld (B := T3.cell) rfl not_false ?_)
    refine ite (fun hfull => ?_) (fun hfull => ?_)
    · have hp : putTS most s k n = (s, 140) := by unfold putTS; rw [if_pos hmay, hm]; simp only; rw [if_pos (by omega)]
      rw [hp]
      exact ⟨rfl, TT.up, Fr.fr Le.e⟩
    · have hp : putTS most s k n = (⟨fun k' => if k' = k then some n else s.M k', s.u + 1⟩, 0) := by unfold putTS; rw [if_pos hmay, hm]; simp only; rw [if_neg (by omega)]
      rw [hp]
      have T4 := T.up (w' := w4)
      refine rld (B := T4.cell) rfl ?_
      refine rsl none (some i) T4.keys.sl (by simp) (by simpa using hle) fun a3 c3 S1 => ?_
      refine rapp (u := w4) ⟨rfl, rfl⟩ (Own.nil _ E.api_Key _) S1 (by simp; omega) fun v5 w5 O5 f5 s5 => ?_
      refine rldG (ds := enc k) (B := B1) rfl rfl ?_
      refine rbs1 k rfl rfl (by decide) fun b6 w6 e6 _ S6 => ?_
      refine rapp1 (u := w4) ⟨rfl, rfl⟩ O5.up S6 (by simp; omega) fun v7 w7 O7 f7 s7 => ?_
      refine rld (B := T4.cell) rfl ?_
      refine rsl (some i) none (T4.keys.sl.up (w' := w7)) (by simpa using hle) (by simp) fun a4 c4 S8 => ?_
      refine rapp (u := w4) ⟨rfl, rfl⟩ O7 S8 (by simp; omega) fun v8 w8 O8 f8 s8 => ?_
      have K8 : Own w4.heap.size E.api_Key w8 v8 (ks.take i ++ k :: ks.drop i) := by
        rw [sl_take, sl_drop] at O8; simpa using O8
      clear O8 O7 O5
      refine rld (B := T4.cell) rfl ?_
      refine rsl none (some i) (T4.nums.sl.up (w' := w8)) (by simp) (by simpa [hl2] using hle) fun a5 c5 S9 => ?_
      refine rapp (u := w4) ⟨rfl, rfl⟩ (Own.nil _ E.int _) S9 (by simp; omega) fun v9 w9 O9 f9 s9 => ?_
      refine rbs1 n rfl rfl (by decide) fun b10 w10 e10 _ S10 => ?_
      refine rapp1 (u := w4) ⟨rfl, rfl⟩ O9.up S10 (by simp; omega) fun v11 w11 O11 f11 s11 => ?_
      refine rld (B := T4.cell) rfl ?_
      refine rsl (some i) none (T4.nums.sl.up (w' := w11)) (by simpa [hl2] using hle) (by simp) fun a6 c6 S12 => ?_
      refine rapp (u := w4) ⟨rfl, rfl⟩ O11 S12 (by simp; omega) fun v12 w12 O12 f12 s12 => ?_
      have K9 := K8.fro (Own.nil (α := Int) w4.heap.size E.int w8) f9 (by decide)
      have K11 := (K9.up (w' := w10)).fro (O9.up (w' := w10)) f11 (by decide)
      have K12 := K11.fro O11 f12 (by decide)
      have N12 : Own w4.heap.size E.int w12 v12 (ns.take i ++ n :: ns.drop i) := by
        rw [sl_take, sl_drop] at O12; simpa using O12
      clear O12 O11 O9 K11 K9 K8
      have q_ := K12.shape
      obtain ⟨ka, kc, rfl⟩ := q_
      have q_ := N12.shape
      obtain ⟨na, nc, rfl⟩ := q_
      have hB4 : B ≤ w4.heap.size := by have := Le.size (a := w) (b := w4); omega
      refine rsto (B := T4.cell) (vs := [.slice ka (ks.take i ++ k :: ks.drop i).length kc]) rfl rfl rfl (sl_one _ _ _) fun w13 C13 f13 _ => ?_
      have F13 : FrT B rtE w w13 := (FrT.ext Le.e).trans ((T4.cell.mv (w := w12)).wrote f13 hlo (by decide))
      have K13 := K12.frc f13 (T4.cell.mv (w := w12)) (by decide)
      have N13 := N12.frc f13 (T4.cell.mv (w := w12)) (by decide)
      refine rsto (B := C13) (vs := [.slice na (ns.take i ++ n :: ns.drop i).length nc]) rfl rfl rfl (sl_one _ _ _) fun w14 C14 f14 _ => ?_
      have F14 : FrT B rtE w w14 := F13.trans (C13.wrote f14 hlo (by decide))
      have K14 := K13.frc f14 C13 (by decide)
      have N14 := N13.frc f14 C13 (by decide)
      exact ⟨rfl, ⟨ka, na, kc, nc, _, _, ⟨hlo, C14, K14.mono hB4, N14.mono hB4, by simp; omega, by simp; omega, by simp; omega⟩, R.ins A hn n _ rfl⟩, F14⟩

set_option maxHeartbeats 400000 in
theorem r14_Drop_sp {B b most : Nat} {s : TS} {k : KeyD} {w : World} (T : RTab B w b most s) :
    Sp Try.prog F.r14_Table_Drop #[.pointer (some ⟨b, 0, none⟩), agg k] w fun v w' => v = .bool (dropTS s k).2 ∧ RTab B w' b most (dropTS s k).1 ∧ FrT B rtE w w' := by
  have TT := T
  obtain ⟨a1, a2, c1, c2, ks, ns, T, R⟩ := T
  have hbl := T.cell.lt
  have hlo := T.lo
  refine en TBok rfl ?_
  refine rbx fun bk w1 n1 B1 => ?_
  refine rldG (ds := enc k) (B := B1) rfl rfl ?_
  refine rcall (r14_at_sp (k := k) (T.up (w' := w1))) ?_
  rintro v w4 ⟨⟨i, A, ⟨⟨hi, hk⟩, rfl⟩ | ⟨hn, rfl⟩⟩, e4⟩
  · have q_ := R.get A
    rcases q_ with ⟨_, _, n0, hn0, hm⟩ | ⟨h, _⟩
    case' inr => exact absurd hk (h hi)
    have hp : dropTS s k = (⟨fun k' => if k' = k then none else s.M k', s.u - 1⟩, true) := by unfold dropTS; rw [hm]
    rw [hp]
    have hl := T.len
    have hcap := T.cap
    have hl2 := T.len2
    have hle := A.le
    have T4 := T.up (w' := w4)
    refine rld (B := T4.cell) rfl ?_
    refine rsl none (some i) T4.keys.sl (by simp) (by simpa using hle) fun a3 c3 S1 => ?_
    refine rapp (u := w4) ⟨rfl, rfl⟩ (Own.nil _ E.api_Key _) S1 (by simp; omega) fun v5 w5 O5 f5 s5 => ?_
    refine rld (B := T4.cell) rfl ?_
    refine rarE (y := ((i + 1 : Nat) : Int)) (by omega) (by omega) ?_
    refine rsl (some (i + 1)) none (T4.keys.sl.up (w' := w5)) (by simp; omega) (by simp) fun a4 c4 S8 => ?_
    refine rapp (u := w4) ⟨rfl, rfl⟩ O5 S8 (by simp; omega) fun v8 w8 O8 f8 s8 => ?_
    have K8 : Own w4.heap.size E.api_Key w8 v8 (ks.take i ++ ks.drop (i + 1)) := by
      rw [sl_take, sl_drop] at O8; simpa using O8
    clear O8 O5
    refine rld (B := T4.cell) rfl ?_
    refine rsl none (some i) (T4.nums.sl.up (w' := w8)) (by simp) (by simpa [hl2] using hle) fun a5 c5 S9 => ?_
    refine rapp (u := w4) ⟨rfl, rfl⟩ (Own.nil _ E.int _) S9 (by simp; omega) fun v9 w9 O9 f9 s9 => ?_
    refine rld (B := T4.cell) rfl ?_
    refine rarE (y := ((i + 1 : Nat) : Int)) (by omega) (by omega) ?_
    refine rsl (some (i + 1)) none (T4.nums.sl.up (w' := w9)) (by simp; omega) (by simp) fun a6 c6 S12 => ?_
    refine rapp (u := w4) ⟨rfl, rfl⟩ O9 S12 (by simp; omega) fun v12 w12 O12 f12 s12 => ?_
    have K9 := K8.fro (Own.nil (α := Int) w4.heap.size E.int w8) f9 (by decide)
    have K12 := K9.fro O9 f12 (by decide)
    have N12 : Own w4.heap.size E.int w12 v12 (ns.take i ++ ns.drop (i + 1)) := by
      rw [sl_take, sl_drop] at O12; simpa using O12
    clear O12 O9 K9 K8
    have q_ := K12.shape
    obtain ⟨ka, kc, rfl⟩ := q_
    have q_ := N12.shape
    obtain ⟨na, nc, rfl⟩ := q_
    have hB4 : B ≤ w4.heap.size := by have := Le.size (a := w) (b := w4); omega
    refine rsto (B := T4.cell) (vs := [.slice ka (ks.take i ++ ks.drop (i + 1)).length kc]) rfl rfl rfl (sl_one _ _ _) fun w13 C13 f13 _ => ?_
    have F13 : FrT B rtE w w13 := (FrT.ext Le.e).trans ((T4.cell.mv (w := w12)).wrote f13 hlo (by decide))
    have K13 := K12.frc f13 (T4.cell.mv (w := w12)) (by decide)
    have N13 := N12.frc f13 (T4.cell.mv (w := w12)) (by decide)
    refine rsto (B := C13) (vs := [.slice na (ns.take i ++ ns.drop (i + 1)).length nc]) rfl rfl rfl (sl_one _ _ _) fun w14 C14 f14 _ => ?_
    have F14 : FrT B rtE w w14 := F13.trans (C13.wrote f14 hlo (by decide))
    have K14 := K13.frc f14 C13 (by decide)
    have N14 := N13.frc f14 C13 (by decide)
    exact ⟨rfl, ⟨ka, na, kc, nc, _, _, ⟨hlo, C14, K14.mono hB4, N14.mono hB4, by simp; omega, by simp; omega, by simp; omega⟩, R.del hi hk _ rfl⟩, F14⟩
  · have q_ := R.get A
    rcases q_ with ⟨hi, hk, _⟩ | ⟨_, hm⟩
    case' inl => exact absurd hk (hn hi)
    have hp : dropTS s k = (s, false) := by unfold dropTS; rw [hm]
    rw [hp]
    exact ⟨rfl, TT.up, Fr.fr Le.e⟩

theorem r14_Same_sp {a b : Option Addr} {na ca nb cb : Nat} {la lb : List KeyD} {w : World} (ha : SlF w (.slice a na ca) la) (hb : SlF w (.slice b nb cb) lb) (hn : la.length ≤ 1000000) :
    Sp Try.prog F.r14_Same #[.slice a na ca, .slice b nb cb] w fun v w' => Tells (la = lb) v ∧ Stp w w' := by
  have q_ := ha.len
  obtain rfl := q_
  have q_ := hb.len
  obtain rfl := q_
  refine en TBok rfl ?_
  refine ite (fun h => ⟨.f (fun e => h (by rw [e])), stp⟩) (fun h => ?_)
  have hl : la.length = lb.length := by omega
  refine cnt TBok 6 [4] 5 la.length (fun k w' => la.take k = lb.take k ∧ Stp w w') rfl rfl ⟨by simp, stp⟩ ?_
  rintro k g w' hk ⟨ht, e⟩
  refine ite (fun hlt => ?_) (fun hge => ?_)
  · have hka : k < la.length := by omega
    have hkb : k < lb.length := by omega
    refine drawR TBok mixed (fun _ => False) (upF 9 0) (by kernel_rfl) fun w1 e1 _ => ?_
    refine tix ha.up (x := la[k]) (by simp) fun b1 o1 A1 _ => tloadA A1 rfl not_false ?_
    refine tix hb.up (x := lb[k]) (by simp) fun b2 o2 A2 _ => tloadA A2 rfl not_false ?_
    refine tgne KeyD la[k] lb[k] (fun hne => ⟨.f (by rintro rfl; exact hne rfl), stp⟩) (fun he => ?_)
    refine rar (by omega) ⟨rfl, hka, ?_, stp⟩
    rw [take_add hka, take_add hkb, ht, he]
  · have q_ : k = la.length := by omega
    obtain rfl := q_
    rw [List.take_of_length_le (Nat.le_refl _), List.take_of_length_le (by omega)] at ht
    exact ⟨.t ht, e⟩
end Go.W
