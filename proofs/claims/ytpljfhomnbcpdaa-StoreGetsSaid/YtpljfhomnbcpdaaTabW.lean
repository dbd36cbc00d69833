/-
  Proved here: the laws of tables return true: TableRuns, TableKeys, TableNil, TableOrder (walks through the laws).
  Conditions: the rows can be read.
-/
import Derived.Test.YtpljfhomnbcpdaaTabO
import Derived.Test.YtpljfhomnbcpdaaTabK
namespace Go.W
open Go Go.Proofs
open Enc (enc)
set_option maxRecDepth 10000

abbrev tbE : List TypeId := [E.table_Table, E.table_place]
theorem TabS.wrote {B b c most : Nat} {a : Option Addr} {s : TS} {w w' : World} (T : TabS B w b a c most s) (f : Fr (tabD B b a c most) w w') : FrT B tbE w w' := by
  obtain ⟨h0, R, T, _⟩ := T
  refine Fr.mono f fun i hi hd => ?_
  rcases hd with rfl | hd
  · exact .mk h0 T.cell.h (by decide)
  · have hO := T.row
    rcases hO with ⟨_, a, h⟩ | hO
    · exact absurd h (hd.2.2 a)
    · have q_ := hO.2
      rcases q_ with ⟨h, _⟩ | ⟨g, cap, cur, h, hb, hg, _⟩
      · have := hd.2.1; rw [h] at this; cases this
      · have h2 := hd.2.1
        rw [h] at h2
        simp only [Value.blk] at h2; cases h2
        exact .mk hb hg (by decide)
theorem TabS.kept {B C b c most : Nat} {a : Option Addr} {s : TS} {w w' : World} {es : List TypeId} (T : TabS B w b a c most s) (f : FrT C es w w') (h1 : E.table_Table ∉ es) (h2 : E.table_place ∉ es) : TabS B w' b a c most s := by
  obtain ⟨h0, R, T, r⟩ := T
  exact ⟨h0, R, ⟨T.cell.kept f h1, T.row.kept f h2, T.len, T.tab, T.bnd, T.may, T.zero⟩, r⟩
theorem Put_spT {B b c most : Nat} {a : Option Addr} {s : TS} {k : KeyD} {n : Int} {w : World} (T : TabS B w b a c most s) :
    Sp Try.prog F.table_Table_Put #[.pointer (some ⟨b, 0, none⟩), agg k, .int .i64 n] w fun v w' => v = .int .i64 (putTS most s k n).2 ∧ TabS B w' b a c most (putTS most s k n).1 ∧ FrT B tbE w w' :=
  (Put_sp T).mono fun _ _ ⟨h1, h2, h3⟩ => ⟨h1, h2, T.wrote h3⟩
theorem Drop_spT {B b c most : Nat} {a : Option Addr} {s : TS} {k : KeyD} {w : World} (T : TabS B w b a c most s) :
    Sp Try.prog F.table_Table_Drop #[.pointer (some ⟨b, 0, none⟩), agg k] w fun v w' => v = .bool (dropTS s k).2 ∧ TabS B w' b a c most (dropTS s k).1 ∧ FrT B tbE w w' :=
  (Drop_sp T).mono fun _ _ ⟨h1, h2, h3⟩ => ⟨h1, h2, T.wrote h3⟩

theorem l14_TableNil_sp {k : KeyD} {n : Int} {w : World} : Sp Try.prog F.l14_TableNil #[agg k, .int .i64 n] w fun v w' => v = .bool true ∧ Stp w w' := by
  refine en TBok rfl ?_
  refine rbx fun bk w1 n1 B1 => ?_
  refine rldG (ds := enc k) (B := B1) rfl rfl ?_
  refine rcall (Get_nil_sp) ?_
  rintro v w2 ⟨rfl, e2⟩
  refine rcall (l14_tables_sp) ?_
  rintro v w3 ⟨rfl, e3⟩
  refine rldG (ds := enc k) (B := B1) rfl rfl ?_
  refine rcall (Put_nil_sp) ?_
  rintro v w4 ⟨rfl, e4⟩
  refine ite (fun _ => ?_) (fun h => absurd rfl h)
  refine ite (fun _ => ?_) (fun h => absurd rfl h)
  refine rldG (ds := enc k) (B := B1) rfl rfl ?_
  refine rcall (Drop_nil_sp) ?_
  rintro v w5 ⟨rfl, e5⟩
  refine rcall (Len_nil_sp) ?_
  rintro v w6 ⟨rfl, e6⟩
  refine ite (fun _ => ?_) (fun h => absurd rfl h)
  refine rcall (Keys_nil_sp) ?_
  rintro v w7 ⟨rfl, e7⟩
  refine ite (fun _ => ?_) (fun h => absurd rfl h)
  exact ⟨rfl, stp⟩

set_option maxHeartbeats 1000000 in
theorem l14_TableRuns_sp {most : Int} {a0 : Option Addr} {n0 c0 : Nat} {l : List TStep} {w : World} (h : SlF w (.slice a0 n0 c0) l) :
    Sp Try.prog F.l14_TableRuns #[.int .i64 most, .slice a0 n0 c0] w fun v w' => v = .bool true ∧ Stp w w' := by
  have q_ := h.len
  obtain rfl := q_
  refine en TBok rfl ?_
  refine rcall (table_New_sp (most := most) (w := w)) ?_
  rintro v w3 ⟨⟨hm, rfl⟩ | ⟨N, b, a, c, rfl, hN1, hN2, rfl, T⟩, e3⟩
  · refine rpnil ?_
    refine rcall (l14_tables_sp) ?_
    rintro v w4 ⟨rfl, e4⟩
    refine rpnnil ?_
    refine ite (fun _ => ?_) (fun h => absurd rfl h)
    refine ite (fun h => absurd h (by first | omega | decide | (dsimp only <;> omega))) (fun _ => ?_)
    refine ite (fun h1 => ?_) (fun h1 => ?_)
    · refine ite (fun h => absurd h (by first | omega | decide | (dsimp only <;> omega))) (fun _ => ?_)
      refine rbeq (fun _ => ⟨rfl, stp⟩) (fun h => absurd rfl h)
    · refine rbeq (fun _ => ⟨rfl, stp⟩) (fun h => absurd rfl h)
  have hlo := T.lo
  refine rpnil ?_
  refine ite (fun h => absurd rfl h) (fun _ => ?_)
  refine ite (fun h1 => ?_) (fun h1 => ?_)
  · refine rcall (l14_tables_sp) ?_
    rintro v w4 ⟨rfl, e4⟩
    refine rpnnil ?_
    refine ite (fun _ => ?_) (fun h => absurd rfl h)
    refine ite (fun _ => ?_) (fun h => absurd (by first | omega | decide | (dsimp only <;> omega)) h)
    refine ite (fun _ => ?_) (fun h => absurd (by first | omega | decide | (dsimp only <;> omega)) h)
    refine rbeq (fun _ => ⟨rfl, stp⟩) (fun h => absurd rfl h)
  refine rbuild (cs := [.slice none 0 0, .slice none 0 0, .int .i64 (N : Nat)]) rfl ?_
  refine rbx fun bm w4 n4 B4 => ?_
  have RT : RTab w.heap.size w4 bm N zTS := ⟨none, none, 0, 0, [], [], ⟨n4.lo, B4, Own.nil _ _ _, Own.nil _ _ _, by simp, by simp, rfl⟩, RefOf.zero⟩
  refine cnt TBok 9 [4] 8 l.length (fun i u => ∃ s, TabS w.heap.size u b a c N s ∧ RTab w.heap.size u bm N s ∧ Stp w u) rfl rfl ⟨_, T.up, RT, stp⟩ ?_
  rintro i g u hi ⟨s, Ts, Rs, e⟩
  refine ite (fun hlt => ?_) (fun hge => ?_)
  · have hka : i < l.length := by omega
    refine rix (h.up (w' := u)) (x := l[i]) (by simp) fun b4 o4 A4 => rloadA A4 rfl ?_
    refine ral fun b5 u5 n5 z5 => ?_
    refine rsto (B := z5) (vs := enc l[i]) rfl rfl rfl (Enc.one _) fun u6 B6 f6 _ => ?_
    have s6 : Stp u u6 := ⟨Fr.st Le.e f6 fun i hi => by subst hi; exact n5.lo⟩
    have T6 := Ts.up (w' := u6)
    have R6 := Rs.up (w' := u6)
    clear z5 f6
    have sB6 : Bk u6 b5 (enc l[i]) E.waysideref14_Op := B6
    clear B6
    refine rld (B := sB6) rfl ?_
    refine ite (fun h1 => ?p1) (fun h1 => ?q1)
    case' q1 =>
      refine ite (fun h2 => ?p2) (fun h2 => ?q2)
      case' q2 =>
        refine ite (fun h3 => ?p3) (fun h3 => ?p4)
    case' p1 =>
      refine drawR TBok mixed (fun i => i ≠ b5) [0,1,2,3,4,6,7,8,9,10,5,11,12] (by kernel_rfl) fun u7 e7 _ => ?_
      refine tldG (ds := enc l[i].key) (B := sB6) rfl rfl (fun h => h rfl) ?_
      refine tld (B := sB6) rfl (fun h => h rfl) ?_
      refine tldG (ds := enc l[i].key) (B := sB6) rfl rfl (fun h => h rfl) ?_
      refine tld (B := sB6) rfl (fun h => h rfl) ?_
      refine rcall (Put_spT (k := l[i].key) (n := l[i].n) (T6.up (w' := u7))) ?_
      rintro v u8 ⟨rfl, T8, f8⟩
      have B8 := (sB6.mv (w := u7)).kept f8 (by decide)
      have R8 := (R6.up (w' := u7)).kept f8 (by decide) (by decide) (by decide)
      refine ⟨f8.ne (sB6.mv (w := u7)) (by decide), ?_⟩
      have s8 : Stp w u8 := ⟨FrT.st Le.e f8 (Nat.le_refl _)⟩
      refine rcall (r14_Put_sp (k := l[i].key) (n := l[i].n) hN2 R8) ?_
      rintro v u9 ⟨rfl, R9, f9⟩
      refine ⟨f9.ne B8 (by decide), ?_⟩
      have T9 := T8.kept f9 (by decide) (by decide)
      have s9 : Stp w u9 := ⟨FrT.st Le.e f9 (Nat.le_refl _)⟩
      clear T8 R8 f8 f9 s8
      refine ite (fun h => absurd rfl h) (fun _ => ?_)
    case' p2 =>
      refine rldG (ds := enc l[i].key) (B := sB6) rfl rfl ?_
      refine rcall (Get_sp (k := l[i].key) T6) ?_
      rintro v u8 ⟨rfl, e8⟩
      refine rldG (ds := enc l[i].key) (B := sB6) rfl rfl ?_
      refine rcall (r14_Get_sp (k := l[i].key) (R6.up (w' := u8))) ?_
      rintro v u9 ⟨rfl, e9⟩
      have T9 := T6.up (w' := u9)
      have R9 := R6.up (w' := u9)
      have s9 : Stp w u9 := stp
      clear e8 e9
      refine ite (fun h => absurd rfl h) (fun _ => ?_)
      refine rbne (fun h => absurd rfl h) (fun _ => ?_)
    case' p3 =>
      refine drawR TBok mixed (fun i => i ≠ b5) [0,1,2,4,5,6,3,7,8] (by kernel_rfl) fun u7 e7 _ => ?_
      refine tldG (ds := enc l[i].key) (B := sB6) rfl rfl (fun h => h rfl) ?_
      refine tldG (ds := enc l[i].key) (B := sB6) rfl rfl (fun h => h rfl) ?_
      refine rcall (Drop_spT (k := l[i].key) (T6.up (w' := u7))) ?_
      rintro v u8 ⟨rfl, T8, f8⟩
      have B8 := (sB6.mv (w := u7)).kept f8 (by decide)
      have R8 := (R6.up (w' := u7)).kept f8 (by decide) (by decide) (by decide)
      refine ⟨f8.ne (sB6.mv (w := u7)) (by decide), ?_⟩
      have s8 : Stp w u8 := ⟨FrT.st Le.e f8 (Nat.le_refl _)⟩
      refine rcall (r14_Drop_sp (k := l[i].key) R8) ?_
      rintro v u9 ⟨rfl, R9, f9⟩
      refine ⟨f9.ne B8 (by decide), ?_⟩
      have T9 := T8.kept f9 (by decide) (by decide)
      have s9 : Stp w u9 := ⟨FrT.st Le.e f9 (Nat.le_refl _)⟩
      clear T8 R8 f8 f9 s8
      refine tbne (fun h => absurd rfl h) (fun _ => ?_)
    case' p4 =>
      have T9 := T6
      have R9 := R6
      have s9 : Stp w u6 := stp
    all_goals
      refine drawR TBok mixed (fun _ => False) [0,2,3,4,5,6,1,7] (by kernel_rfl) fun v1 g1 _ => ?_
      have RR := R9.up (w' := v1)
      obtain ⟨a1, a2, c1, c2, ks, ns, RH, RF⟩ := RR
      refine tld (B := RH.cell) rfl not_false ?_
      refine rcall (Len_sp (T9.up (w' := v1))) ?_
      rintro v v2 ⟨rfl, e2⟩
      refine ⟨e2.e, ?_⟩
      have hu := RF.u
      refine ite (fun h => absurd (by rw [hu]) h) (fun _ => ?_)
      exact rar (by omega) ⟨rfl, hka, _, T9.up, R9.up, stp⟩
  · have q_ : i = l.length := by omega
    obtain rfl := q_
    refine drawR TBok mixed (fun _ => False) [0,1,2,4,5,6,7,3,8,9,10] (by kernel_rfl) fun v1 g1 _ => ?_
    refine rcall l14_tables_sp ?_
    rintro v v2 ⟨rfl, e2⟩
    refine ⟨e2.e, ?_⟩
    have T2 := Ts.up (w' := v2)
    have RR := Rs.up (w' := v2)
    obtain ⟨a1, a2, c1, c2, ks, ns, RH, RF⟩ := RR
    refine tld (B := RH.cell) rfl not_false ?_
    refine rcall (Keys_sp T2) ?_
    rintro v v3 ⟨⟨lk, hK, OK⟩, e3⟩
    have hkk := hK.uniq RF.keys
    subst hkk
    have q_ := OK.shape
    obtain ⟨ak, ck, rfl⟩ := q_
    refine ⟨e3.e, ?_⟩
    refine rcall (r14_Same_sp OK.sl (RH.keys.sl.up (w' := v3)) (by have := RH.len; omega)) ?_
    rintro v v4 ⟨⟨rfl, _⟩ | ⟨rfl, hne⟩, e4⟩
    · exact ⟨e4.e, rfl, stp⟩
    · exact absurd rfl hne
end Go.W
