/-
  Proved here: tables: put into (contract).
  Conditions: the table lies in memory as is said at each.
-/
import Derived.Test.YtpljfhomnbcpdaaTabP2
namespace Go.W
open Go Go.Proofs
open Enc (enc)
set_option maxRecDepth 10000

theorem mem_set_cases {R : List PlD} {i : Nat} {y x : PlD} (h : x ∈ R.set i y) : x ∈ R ∨ x = y := List.mem_or_eq_of_mem_set h
set_option maxHeartbeats 400000 in
theorem Put_sp {B b c most : Nat} {a : Option Addr} {s : TS} {k : KeyD} {n : Int} {w : World} (T : TabS B w b a c most s) :
    Sp Try.prog F.table_Table_Put #[.pointer (some ⟨b, 0, none⟩), agg k, .int .i64 n] w fun v w' => v = .int .i64 (putTS most s k n).2 ∧ TabS B w' b a c most (putTS most s k n).1 ∧ Fr (tabD B b a c most) w w' := by
  have TT := T
  obtain ⟨hB, R, T, hM, hu⟩ := T
  refine en TBok rfl ?_
  refine rbx fun bk w1 n1 B1 => ?_
  refine rpnil ?_
  refine rldG (B := B1) rfl rfl ?_
  refine rcall may_sp ?_
  rintro v w2 ⟨⟨rfl, hk⟩ | ⟨rfl, hk⟩, e2⟩
  · refine rldG (B := B1) rfl rfl ?_
    refine rcall (find_sp (T.up (w' := w2)) hk) ?_
    rintro v w3 ⟨⟨i, rfl, hF⟩, e3⟩
    have hi := hF.lt
    have hlen := T.len
    have hsp := put_spec T.tab hF n
    obtain ⟨hT', hM', hu'⟩ := hsp
    have hgf := getT_find T.tab hF
    rw [rowF_get hi] at hgf
    have C := T.cell.mv (w := w3); have O := T.row.up (w' := w3)
    have hmay' : ∀ x ∈ R.set i ⟨k, n, true⟩, x.used = true → mayK x.key := fun x hx hux => by
      have q_ := mem_set_cases hx
      rcases q_ with h | rfl
      · exact T.may x h hux
      · exact hk
    have hzero' : ∀ x ∈ R.set i ⟨k, n, true⟩, x.used = false → x = zPl := fun x hx hux => by
      have q_ := mem_set_cases hx
      rcases q_ with h | rfl
      · exact T.zero x h hux
      · cases hux
    refine rld (B := C) rfl ?_
    refine rix O.sl (x := R[i]) (by simp) fun b4 o4 A4 => ?_
    have D3 : Fr (tabD B b a c most) w w3 := Fr.fr Le.e
    by_cases hur : R[i].used = true
    case' neg =>
      have hur : R[i].used = false := by simpa using hur
      rw [hur, if_neg (by simp)] at hgf
      rw [hgf, if_pos rfl] at hu'
      refine rload1 (v := .bool false) (A4.cell 4 (by simp [enc, hur])) ?_
      refine drawR TBok mixed (fun _ => False) (upF 9 0) (by kernel_rfl) fun u1 e1 _ => ?_
      refine tld (B := C) rfl not_false (tld (B := C) rfl not_false ?_)
      refine ite (fun hfull => ?_) (fun hfull => ?_)
      · have hp : putTS most s k n = (s, 140) := by
          unfold putTS; rw [if_pos hk, ← hM, hgf]; simp only; rw [if_pos (by omega)]
        rw [hp]
        exact ⟨rfl, TT.up, Fr.fr Le.e⟩
      have hp : putTS most s k n = (⟨fun k' => if k' = k then some n else s.M k', s.u + 1⟩, 0) := by
        unfold putTS; rw [if_pos hk, ← hM, hgf]; simp only; rw [if_neg (by omega)]
      rw [hp]
      have hb := T.bnd
      refine rld (B := C) rfl ?_
      refine rarE (y := ((usedN (R.set i ⟨k, n, true⟩) : Nat) : Int)) (by omega) (by omega) ?_
      have C2 := C.mv (w := u1)
      refine rsto (B := C2) (vs := [.int .i64 ((usedN (R.set i ⟨k, n, true⟩) : Nat) : Int)]) rfl rfl rfl (by simp; rfl) fun u2 C9 f2 _ => ?_
      have O9 := (O.up (w' := u1)).frc f2 C2 (by decide)
      have D9 : Fr (tabD B b a c most) w u2 := (Fr.fr Le.e : Fr (tabD B b a c most) w u1).trans (f2.mono fun j _ hj => .inl hj)
      have B9 := (B1.mv (w := u1)).fr f2 (by have h1 := B1.h; have h2 := (T.cell.mv (w := w1)).h; intro e; subst e; rw [h1] at h2; cases h2)
      have hb9 : 1 ≤ most ∧ most ≤ 400 ∧ usedN (R.set i ⟨k, n, true⟩) ≤ most := ⟨hb.1, hb.2.1, by omega⟩
      have hu9 : usedN (R.set i ⟨k, n, true⟩) = s.u + 1 := by omega
      have hM9 : getT (R.set i ⟨k, n, true⟩) = fun k' => if k' = k then some n else s.M k' := by rw [hM', hM]
      clear C2
    case' pos =>
      rw [hur, if_pos rfl] at hgf
      rw [hgf, if_neg (by simp)] at hu'
      refine rload1 (v := .bool true) (A4.cell 4 (by simp [enc, hur])) ?_
      have hp : putTS most s k n = (⟨fun k' => if k' = k then some n else s.M k', s.u⟩, 0) := by
        unfold putTS; rw [if_pos hk, ← hM, hgf]
      rw [hp]
      have hb := T.bnd
      have C9 : Bk w3 b [.slice a (2 * most) c, .int .i64 most, .int .i64 ((usedN (R.set i ⟨k, n, true⟩) : Nat) : Int)] E.table_Table := by rw [hu']; exact C
      have O9 := O
      have D9 := D3
      have B9 := B1.mv (w := w3)
      have hb9 : 1 ≤ most ∧ most ≤ 400 ∧ usedN (R.set i ⟨k, n, true⟩) ≤ most := ⟨hb.1, hb.2.1, by omega⟩
      have hu9 : usedN (R.set i ⟨k, n, true⟩) = s.u := by omega
      have hM9 : getT (R.set i ⟨k, n, true⟩) = fun k' => if k' = k then some n else s.M k' := by rw [hM', hM]
    all_goals
      clear C
      refine drawR TBok mixed (ownD B (.slice a (2 * most) c)) (upF 10 0) (by kernel_rfl) fun u9 e9 _ => ?_
      refine tld (B := C9) rfl (C9.notOwn O9 (by decide)) ?_
      refine tldG (B := B9) rfl rfl (B9.notOwn O9 (by decide)) ?_
      refine tbuild (cs := enc (⟨k, n, true⟩ : PlD)) rfl ?_
      refine tixO rfl (O9.up (w' := u9)) (x := R[i]) (by simp) fun g hg _ A => ?_
      refine rstO' rfl (⟨k, n, true⟩ : PlD) (O9.up (w' := u9)) hg hi rfl fun u10 O10 f10 _ => ⟨f10, ?_⟩
      have C10 := (C9.mv (w := u9)).fro (O9.up (w' := u9)) f10 (by decide)
      refine ⟨rfl, ⟨hB, _, ⟨C10, O10, by rw [List.length_set]; exact hlen, hT', hb9, hmay', hzero'⟩, hM9, hu9⟩, ?_⟩
      exact (D9.trans (Fr.fr e9.e)).trans (f10.mono fun j _ hj => .inr hj)
  · have hp : putTS most s k n = (s, 1) := by unfold putTS; rw [if_neg hk]
    rw [hp]
    exact ⟨rfl, TT.up, Fr.fr Le.e⟩
theorem Put_nil_sp {k : KeyD} {n : Int} {w : World} : Sp Try.prog F.table_Table_Put #[.pointer none, agg k, .int .i64 n] w fun v w' => v = .int .i64 3 ∧ Stp w w' := by
  refine en TBok rfl ?_
  refine rbx fun bk w1 n1 B1 => ?_
  refine rpnil ?_
  exact ⟨rfl, stp⟩
theorem Drop_nil_sp {k : KeyD} {w : World} : Sp Try.prog F.table_Table_Drop #[.pointer none, agg k] w fun v w' => v = .bool false ∧ Stp w w' := by
  refine en TBok rfl ?_
  refine rbx fun bk w1 n1 B1 => ?_
  refine rpnil ?_
  exact ⟨rfl, stp⟩
end Go.W
