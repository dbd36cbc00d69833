/-
  Proved here: the laws TableKeys and TableOrder return true (walks through the laws).
  Conditions: the rows can be read.
-/
import Derived.Test.YtpljfhomnbcpdaaTabW
namespace Go.W
open Go Go.Proofs
open Enc (enc)
set_option maxRecDepth 10000

theorem KeysOf.got {s : TS} {l : List KeyD} (h : KeysOf s l) {k : KeyD} (hk : k ∈ l) : ∃ n, getTS s k = (n, true) := by
  have := (h.mem k).1 hk
  have q_ := Option.isSome_iff_exists.1 this
  obtain ⟨n, hn⟩ := q_
  exact ⟨n, by unfold getTS; rw [hn]⟩
theorem KeysOf.asked {s : TS} {l : List KeyD} (h : KeysOf s l) (k : KeyD) : (getTS s k).2 = decide (k ∈ l) := by
  by_cases hk : k ∈ l
  · obtain ⟨n, hn⟩ := h.got hk; rw [hn]; simp [hk]
  · have : s.M k = none := by
      cases hm : s.M k with
      | none => rfl
      | some n => exact absurd ((h.mem k).2 (by rw [hm]; rfl)) hk
    unfold getTS; rw [this]; simp [hk]

set_option maxHeartbeats 1000000 in
theorem l14_TableKeys_sp {most : Int} {k : KeyD} {a0 : Option Addr} {n0 c0 : Nat} {l : List TStep} {w : World} (h : SlF w (.slice a0 n0 c0) l) :
    Sp Try.prog F.l14_TableKeys #[.int .i64 most, .slice a0 n0 c0, agg k] w fun v w' => v = .bool true ∧ Stp w w' := by
  have q_ := h.len
  obtain rfl := q_
  refine en TBok rfl ?_
  refine rbx fun bk w1 n1 B1 => ?_
  refine rcall (table_New_sp (most := most) (w := w1)) ?_
  rintro v w3 ⟨⟨_, rfl⟩ | ⟨N, b, a, c, rfl, hN1, hN2, rfl, T⟩, e3⟩
  · refine rpnil ?_
    refine rcall (l14_tables_sp) ?_
    rintro v w4 ⟨rfl, e4⟩
    exact ⟨rfl, stp⟩
  have hlo := T.lo
  refine rpnil ?_
  refine ite (fun h => absurd rfl h) (fun _ => ?_)
  refine ite (fun h1 => ?_) (fun h1 => ?_)
  · refine rcall (l14_tables_sp) ?_
    rintro v w4 ⟨rfl, e4⟩
    exact ⟨rfl, stp⟩
  refine cnt TBok 10 [] 9 l.length (fun i u => ∃ s, TabS w1.heap.size u b a c N s ∧ Stp w1 u) rfl rfl ⟨_, T, stp⟩ ?_
  rintro i g u hi ⟨s, Ts, e⟩
  refine ite (fun hlt => ?_) (fun hge => ?_)
  · have hka : i < l.length := by omega
    refine rix (h.up (w' := u)) (x := l[i]) (by simp) fun b4 o4 A4 => rloadA A4 rfl ?_
    refine rcall (do_sp (o := l[i]) Ts) ?_
    rintro v u1 ⟨T1, f1⟩
    have s1 : Stp w1 u1 := ⟨FrT.st Le.e (Ts.wrote f1) (Nat.le_refl _)⟩
    exact rar (by omega) ⟨rfl, hka, _, T1, s1⟩
  refine rcall (Keys_sp Ts) ?_
  rintro v u1 ⟨⟨lk, hK, OK⟩, e1⟩
  have hle := Ts.le
  have hlk := hK.len
  have q_ := OK.shape
  obtain ⟨ak, ck, rfl⟩ := q_
  have T1 := Ts.up (w' := u1)
  refine cnt1 TBok 13 [6] 11 12 lk.length (fun i v u => (∃ q : Bool, v = .bool q ∧ (q = true ↔ k ∈ lk.take i)) ∧ Stp u1 u) rfl rfl ⟨⟨false, rfl, by simp⟩, stp⟩ ?_
  rintro j v g2 u2 hj ⟨⟨q, rfl, hq⟩, e2⟩
  refine ite (fun hlt => ?_) (fun hge => ?_)
  · have hka : j < lk.length := by omega
    refine rix (OK.sl.up (w' := u2)) (x := lk[j]) (by simp) fun b5 o5 A5 => rloadA A5 rfl ?_
    have hg := hK.got (List.getElem_mem hka)
    obtain ⟨n, hn⟩ := hg
    have G := Get_sp (k := lk[j]) (T1.up (w' := u2))
    rw [hn] at G
    refine rcall G ?_
    rintro v u3 ⟨rfl, e3'⟩
    have hin : k ∈ lk.take (j + 1) ↔ k ∈ lk.take j ∨ k = lk[j] := by rw [take_add hka, List.mem_append, List.mem_singleton]
    refine drawR TBok mixed (fun _ => False) (upF 19 0) (by kernel_rfl) fun u4 e4 _ => ?_
    refine ite (fun hpos => ?pp) (fun h0 => ?qq)
    case' pp =>
      have hj1 : j - 1 < lk.length := by omega
      refine rarE (y := ((j - 1 : Nat) : Int)) (by omega) (by omega) ?_
      refine tix (OK.sl.up (w' := u4)) (x := lk[j - 1]) (by simp) fun b6 o6 A6 _ => tloadA A6 rfl not_false ?_
      refine tix (OK.sl.up (w' := u4)) (x := lk[j]) (by simp) fun b7 o7 A7 _ => tloadA A7 rfl not_false ?_
      have hr : lessK lk[j - 1] lk[j] := List.pairwise_iff_getElem.1 hK.ris _ _ hj1 hka (by omega)
      refine rcall ((r14_Less_sp (a := lk[j - 1]) (b := lk[j])).tt hr) ?_
      rintro v u5 ⟨rfl, e5⟩
      refine ⟨e5.e, ?_⟩
    all_goals
      refine drawR TBok mixed (fun _ => False) (upF 10 0) (by kernel_rfl) fun u6 e6 _ => ?_
      cases q
      case' true => exact rar (by omega) ⟨rfl, hka, ⟨true, rfl, by rw [hin]; exact ⟨fun _ => .inl (hq.1 rfl), fun _ => rfl⟩⟩, stp⟩
      refine tix (OK.sl.up (w' := u6)) (x := lk[j]) (by simp) fun b7 o7 A7 _ => tloadA A7 rfl not_false ?_
      refine tldG (ds := enc k) (B := B1) rfl rfl not_false ?_
      refine tgeq KeyD lk[j] k (fun he => ?_) (fun hne => ?_)
      · exact rar (by omega) ⟨rfl, hka, ⟨true, rfl, by rw [hin]; exact ⟨fun _ => .inr he.symm, fun _ => rfl⟩⟩, stp⟩
      · exact rar (by omega) ⟨rfl, hka, ⟨false, rfl, by rw [hin]; exact Iff.intro (fun h => (by cases h)) (fun h => h.elim hq.2 (fun h => absurd h.symm hne))⟩, stp⟩
  · have q_ : j = lk.length := by omega
    obtain rfl := q_
    rw [List.take_length] at hq
    refine rldG (ds := enc k) (B := B1) rfl rfl ?_
    refine rcall (Get_sp (k := k) (T1.up (w' := u2))) ?_
    rintro v u3 ⟨rfl, e3'⟩
    have hqa : (getTS s k).2 = q := by
      rw [hK.asked k]
      cases q
      · exact decide_eq_false fun h => by have := hq.2 h; cases this
      · exact decide_eq_true (hq.1 rfl)
    refine cnt TBok 18 [] 17 lk.length (fun _ x => ∃ l' : List KeyD, l'.length = lk.length ∧ Own u.heap.size E.api_Key x (.slice ak lk.length ck) l' ∧ Stp u x) rfl rfl ⟨lk, rfl, OK.up, stp⟩ ?_
    rintro i3 g3 x hi3 ⟨l', hl', O', ex⟩
    refine ite (fun hlt => ?_) (fun hge => ?_)
    · have hka : i3 < l'.length := by omega
      refine rixO rfl O' (x := l'[i3]) (by simp) fun gg hg _ A5 => ?_
      refine rstOf (u := u) (x := l'[i3]) { l'[i3] with v := -7 } rfl O' hg (by simp) rfl (by decide) rfl rfl fun x' O2 _ _ _ => ?_
      exact rar (by omega) ⟨rfl, by omega, _, by rw [List.length_set]; exact hl', O2, stp⟩
    · refine rcall (l14_tables_sp) ?_
      rintro v x1 ⟨rfl, ex1⟩
      refine rbeq (fun _ => ?_) (fun h => absurd hqa h)
      refine rcall (Len_sp (Ts.up (w' := x1))) ?_
      rintro v x2 ⟨rfl, ex2⟩
      refine ite (fun _ => ?_) (fun h => absurd (by omega) h)
      refine ite (fun _ => ?_) (fun h => absurd (by omega) h)
      refine rcall (Keys_sp (Ts.up (w' := x2))) ?_
      rintro v x3 ⟨⟨l3, hK3, O3⟩, ex3⟩
      have hl3 := hK3.len
      have q_ := O3.shape
      obtain ⟨a3, c3, rfl⟩ := q_
      refine ite (fun _ => ⟨rfl, stp⟩) (fun h => absurd (by omega) h)

/-! keys put in whatever order -/
def PutSet (l : List KeyD) (S : Nat → Prop) (s : TS) : Prop := ∀ k n, s.M k = some n ↔ ∃ j : Nat, S j ∧ l[j]? = some k ∧ n = (j : Int) ∧ mayK k
theorem PutSet.put {l : List KeyD} {S : Nat → Prop} {s : TS} {most j : Nat} {k : KeyD} (h : PutSet l S s) (hnd : l.Nodup) (hj : l[j]? = some k) (hS : ¬ S j) (hu : s.u < most) :
    PutSet l (fun i => S i ∨ i = j) (putTS most s k (j : Int)).1 ∧ (putTS most s k (j : Int)).1.u ≤ s.u + 1 := by
  have hjl := (List.getElem?_eq_some_iff.1 hj).1
  have inj : ∀ i, l[i]? = some k → i = j := fun i hi => (List.getElem?_inj (List.getElem?_eq_some_iff.1 hi).1 hnd).1 (hi.trans hj.symm)
  unfold putTS
  by_cases hk : mayK k
  · rw [if_pos hk]
    have hm : s.M k = none := by
      cases hm : s.M k with
      | none => rfl
      | some n =>
        have q_ := (h k n).1 hm
        obtain ⟨i, hi, hik, _⟩ := q_
        exact absurd (inj i hik ▸ hi) hS
    rw [hm]
    simp only
    rw [if_neg (by omega)]
    refine ⟨fun k' n => ?_, Nat.le_refl _⟩
    show (if k' = k then some (j : Int) else s.M k') = some n ↔ _
    split
    · rename_i he; subst he
      constructor
      · intro e; cases e; exact ⟨j, .inr rfl, hj, rfl, hk⟩
      · rintro ⟨i, hi, hik, rfl, _⟩
        rw [inj i hik]
    · rename_i he
      rw [h k' n]
      constructor
      · rintro ⟨i, hi, r⟩; exact ⟨i, .inl hi, r⟩
      · rintro ⟨i, hi | rfl, hik, r⟩
        · exact ⟨i, hi, hik, r⟩
        · rw [hj] at hik; cases hik; exact absurd rfl he
  · rw [if_neg hk]
    refine ⟨fun k' n => ?_, by simp⟩
    rw [h k' n]
    constructor
    · rintro ⟨i, hi, r⟩; exact ⟨i, .inl hi, r⟩
    · rintro ⟨i, hi | rfl, hik, r⟩
      · exact ⟨i, hi, hik, r⟩
      · rw [hj] at hik; cases hik; exact absurd r.2 hk
theorem PutSet.zero (l : List KeyD) (S : Nat → Prop) (h : ∀ i, i < l.length → ¬ S i) : PutSet l S zTS := fun k n => Iff.intro (fun e => (by cases e)) (fun ⟨j, hj, hjk, _⟩ => absurd hj (h j (List.getElem?_eq_some_iff.1 hjk).1))
theorem PutSet.ext {l : List KeyD} {S S' : Nat → Prop} {s : TS} (h : PutSet l S s) (e : ∀ i, i < l.length → (S i ↔ S' i)) : PutSet l S' s := fun k n => (h k n).trans
  ⟨fun ⟨j, hj, hjk, r⟩ => ⟨j, (e j (List.getElem?_eq_some_iff.1 hjk).1).1 hj, hjk, r⟩, fun ⟨j, hj, hjk, r⟩ => ⟨j, (e j (List.getElem?_eq_some_iff.1 hjk).1).2 hj, hjk, r⟩⟩
theorem PutSet.got {l : List KeyD} {s : TS} (h : PutSet l (fun _ => True) s) (hnd : l.Nodup) {j : Nat} {k : KeyD} (hj : l[j]? = some k) : getTS s k = if mayK k then ((j : Int), true) else (0, false) := by
  unfold getTS
  split
  · rename_i n hn
    have q_ := (h k n).1 hn
    obtain ⟨i, _, hik, rfl, hk⟩ := q_
    rw [if_pos hk]
    have : i = j := (List.getElem?_inj (List.getElem?_eq_some_iff.1 hik).1 hnd).1 (hik.trans hj.symm)
    rw [this]
  · rename_i hn
    split
    · rename_i hk
      have := (h k j).2 ⟨j, trivial, hj, rfl, hk⟩
      rw [hn] at this; cases this
    · rfl
theorem PutSet.same {l : List KeyD} {s s' : TS} (h : PutSet l (fun _ => True) s) (h' : PutSet l (fun _ => True) s') : s.M = s'.M := by
  funext k
  cases hm : s.M k with
  | some n => exact ((h' k n).2 ((h k n).1 hm)).symm
  | none =>
    cases hm' : s'.M k with
    | none => rfl
    | some n => have := (h k n).2 ((h' k n).1 hm'); rw [hm] at this; cases this

theorem TabS.blk {B b c most : Nat} {a : Option Addr} {s : TS} {w : World} (T : TabS B w b a c most s) : b < w.heap.size ∧ ∃ g, Value.blk (.slice a (2 * most) c) = some g ∧ B ≤ g ∧ g < w.heap.size := by
  obtain ⟨_, R, T, _⟩ := T
  have hl := T.len
  have hb := T.bnd
  exact ⟨T.cell.lt, T.row.lt (by rintro rfl; simp at hl; omega)⟩
theorem TabS.fr {B b c most : Nat} {a : Option Addr} {s : TS} {w w' : World} {D : Nat → Prop} (T : TabS B w b a c most s) (f : Fr D w w') (h1 : ¬ D b) (h2 : ∀ g, B ≤ g → Value.blk (.slice a (2 * most) c) = some g → ¬ D g) : TabS B w' b a c most s := by
  obtain ⟨h0, R, T, r⟩ := T
  exact ⟨h0, R, ⟨T.cell.fr f h1, T.row.fr f h2, T.len, T.tab, T.bnd, T.may, T.zero⟩, r⟩

set_option maxHeartbeats 1000000 in
theorem l14_TableOrder_sp {a0 : Option Addr} {n0 c0 : Nat} {l : List KeyD} {w : World} (h : SlF w (.slice a0 n0 c0) l) :
    Sp Try.prog F.l14_TableOrder #[.slice a0 n0 c0] w fun v w' => v = .bool true ∧ Stp w w' := by
  have q_ := h.len
  obtain rfl := q_
  refine en TBok rfl ?_
  refine rcall (table_New_sp (most := 100) (w := w)) ?_
  rintro v w1 ⟨⟨hm, rfl⟩ | ⟨N, b, a, c, hN, _, _, rfl, T⟩, e1⟩
  · omega
  have q_ : N = 100 := by omega
  obtain rfl := q_
  refine rcall (table_New_sp (most := 100) (w := w1)) ?_
  rintro v w2 ⟨⟨hm, rfl⟩ | ⟨N, b2, a2, c2, hN, _, _, rfl, T2⟩, e2⟩
  · omega
  have q_ : N = 100 := by omega
  obtain rfl := q_
  refine rpnil ?_
  refine rpnil ?_
  refine ite (fun h => absurd rfl h) (fun _ => ?_)
  refine ite (fun h => absurd rfl h) (fun _ => ?_)
  refine ite (fun h1 => ?_) (fun h1 => ?_)
  · refine rcall (l14_tables_sp) ?_
    rintro v w4 ⟨rfl, e4⟩
    exact ⟨rfl, stp⟩
  refine cnt TBok 8 [2] 7 l.length (fun i u => (∀ x, x < i → (hx : x < l.length) → ∀ y, (hy : y < x) → l[x] ≠ l[y]) ∧ Stp w2 u) rfl rfl ⟨by omega, stp⟩ ?_
  rintro i g u hi ⟨hd, e⟩
  refine ite (fun hlt => ?_) (fun hge => ?_)
  · have hka : i < l.length := by omega
    refine cnt TBok 9 [2] 8 i (fun y u => (∀ z, z < y → (hz : z < i) → l[i] ≠ l[z]) ∧ Stp w2 u) rfl rfl ⟨by omega, stp⟩ ?_
    rintro y g1 u1 hy ⟨hd1, e'⟩
    refine ite (fun hlt1 => ?_) (fun hge1 => ?_)
    · have hy' : y < i := by omega
      refine drawR TBok mixed (fun _ => False) (upF 9 0) (by kernel_rfl) fun u2 e3 _ => ?_
      refine tix (h.up (w' := u2)) (x := l[i]) (by simp) fun b5 o5 A5 _ => tloadA A5 rfl not_false ?_
      refine tix (h.up (w' := u2)) (x := l[y]) (by simp) fun b6 o6 A6 _ => tloadA A6 rfl not_false ?_
      refine tgeq KeyD l[i] l[y] (fun _ => ?_) (fun hne => ?_)
      · refine rcall (l14_tables_sp) ?_
        rintro v w4 ⟨rfl, e4⟩
        exact ⟨rfl, stp⟩
      · exact rar (by omega) ⟨rfl, hy', below2 hd1 fun _ => hne, stp⟩
    · exact rar (by omega) ⟨rfl, hka, fun x hx hxl y' hy' => by
        have q_ := Nat.lt_or_ge x i
        rcases q_ with h' | h'
        · exact hd x h' hxl y' hy'
        · have q_ : x = i := by omega
          obtain rfl := q_
          exact hd1 y' (by omega) (by omega), stp⟩
  · have hnd : l.Nodup := by
      rw [List.nodup_iff_pairwise_ne, List.pairwise_iff_getElem]
      intro x y hx hy hxy e
      exact hd y (by omega) hy x hxy e.symm
    have hk1 := T.blk
    obtain ⟨hb1, g1, hg1, hB1, hg1'⟩ := hk1
    have hb2 := T2.lo
    refine cnt TBok 10 [] 9 l.length (fun i u => ∃ sa sb, TabS w.heap.size u b a c 100 sa ∧ TabS w1.heap.size u b2 a2 c2 100 sb ∧ PutSet l (fun j => j < i) sa ∧ PutSet l (fun j => l.length - i ≤ j) sb ∧ sa.u ≤ i ∧ sb.u ≤ i ∧ Stp w u) rfl rfl
      ⟨zTS, zTS, T.up, T2.up, PutSet.zero _ _ (by omega), PutSet.zero _ _ (by omega), Nat.le_refl _, Nat.le_refl _, stp⟩ ?_
    rintro i2 g2 u2 hi2 ⟨sa, sb, Ta, Tb, Pa, Pb, ua, ub, e3⟩
    refine ite (fun hlt2 => ?_) (fun hge2 => ?_)
    · have hka : i2 < l.length := by omega
      have hkb : l.length - 1 - i2 < l.length := by omega
      refine rix (h.up (w' := u2)) (x := l[i2]) (by simp) fun b5 o5 A5 => rloadA A5 rfl ?_
      refine rcall (Put_sp (k := l[i2]) (n := (i2 : Int)) Ta) ?_
      rintro v u3 ⟨rfl, Ta3, f3⟩
      have Tb3 := Tb.fr f3 (by
        rintro (h | h)
        · omega
        · have := h.2.1; rw [hg1] at this; cases this; omega) (by
        rintro g hg hgb (h | h)
        · omega
        · have := h.2.1; rw [hg1] at this; cases this; omega)
      have s3 : Stp w u3 := ⟨FrT.st Le.e (Ta.wrote f3) (Nat.le_refl _)⟩
      refine rarE (y := ((l.length - 1 : Nat) : Int)) (by omega) (by omega) ?_
      refine rarE (y := ((l.length - 1 - i2 : Nat) : Int)) (by omega) (by omega) ?_
      refine rix (h.up (w' := u3)) (x := l[l.length - 1 - i2]) (by simp) fun b6 o6 A6 => rloadA A6 rfl ?_
      refine rcall (Put_sp (k := l[l.length - 1 - i2]) (n := ((l.length - 1 - i2 : Nat) : Int)) Tb3) ?_
      rintro v u4 ⟨rfl, Tb4, f4⟩
      have Ta4 := Ta3.fr f4 (by
        rintro (h | h)
        · omega
        · have := h.1; omega) (by
        rintro g hg hgb (h | h)
        · rw [hg1] at hgb; cases hgb; omega
        · have := h.1; rw [hg1] at hgb; cases hgb; omega)
      have s4 : Stp w u4 := ⟨FrT.st Le.e (Tb3.wrote f4) (Le.size (a := w) (b := w1))⟩
      have PA := Pa.put hnd (j := i2) (k := l[i2]) (most := 100) (by simp) (by omega) (by omega)
      have PB := Pb.put hnd (j := l.length - 1 - i2) (k := l[l.length - 1 - i2]) (most := 100) (by simp) (by omega) (by omega)
      refine rar (by omega) ⟨rfl, hka, _, _, Ta4, Tb4, PA.1.ext fun x hx => by omega, PB.1.ext fun x hx => by omega, ?_, ?_, stp⟩
      · have := PA.2; omega
      · have := PB.2; omega
    · have q_ : i2 = l.length := by omega
      obtain rfl := q_
      have PA : PutSet l (fun _ => True) sa := Pa.ext fun x hx => by simp [hx]
      have PB : PutSet l (fun _ => True) sb := Pb.ext fun x hx => by simp
      refine cnt TBok 12 [2] 11 l.length (fun i u => Stp u2 u) rfl rfl stp ?_
      rintro i4 g4 u4 hi4 e4
      refine ite (fun hlt4 => ?_) (fun hge4 => ?_)
      · have hka : i4 < l.length := by omega
        have GA := PA.got hnd (j := i4) (k := l[i4]) (by simp)
        have GB := PB.got hnd (j := i4) (k := l[i4]) (by simp)
        refine rix (h.up (w' := u4)) (x := l[i4]) (by simp) fun b5 o5 A5 => rloadA A5 rfl ?_
        have XA := fun u (L : Le u2 u) => Get_sp (k := l[i4]) (Ta.up (w' := u))
        have XB := fun u (L : Le u2 u) => Get_sp (k := l[i4]) (Tb.up (w' := u))
        rw [GA] at XA
        rw [GB] at XB
        by_cases hm : mayK l[i4]
        case' pos =>
          rw [if_pos hm] at XA XB
        case' neg =>
          rw [if_neg hm] at XA XB
        all_goals
          refine rcall (XA _ inferInstance) ?_
          rintro v u5 ⟨rfl, e5⟩
          refine rix (h.up (w' := u5)) (x := l[i4]) (by simp) fun b6 o6 A6 => rloadA A6 rfl ?_
          refine rcall (XB _ inferInstance) ?_
          rintro v u6 ⟨rfl, e6⟩
          refine ite (fun h => absurd rfl h) (fun _ => ?_)
          refine rbne (fun h => absurd rfl h) (fun _ => ?_)
        case' pos =>
          refine ite (fun h => absurd rfl h) (fun _ => ?_)
        all_goals
          exact rar (by omega) ⟨rfl, hka, stp⟩
      · refine rcall (l14_tables_sp) ?_
        rintro v x1 ⟨rfl, ex1⟩
        refine rcall (Keys_sp (Ta.up (w' := x1))) ?_
        rintro v x2 ⟨⟨la, hKa, Oa⟩, ex2⟩
        refine rcall (Keys_sp (Tb.up (w' := x2))) ?_
        rintro v x3 ⟨⟨lb, hKb, Ob⟩, ex3⟩
        have hM := PA.same PB
        have hll : la = lb := hKa.ris.uniq hKb.ris fun k => by rw [hKa.mem, hKb.mem, hM]
        subst hll
        have hle := Ta.le
        have hlen := hKa.len
        have q_ := Oa.shape
        obtain ⟨a5, c5, rfl⟩ := q_
        have q_ := Ob.shape
        obtain ⟨a6, c6, rfl⟩ := q_
        refine rcall (r14_Same_sp (Oa.sl.up (w' := x3)) Ob.sl (by omega)) ?_
        rintro v x4 ⟨⟨rfl, _⟩ | ⟨rfl, hne⟩, ex4⟩
        · exact ⟨rfl, stp⟩
        · exact absurd rfl hne
end Go.W
