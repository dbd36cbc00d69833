/-
  Proved here: tables: what may be a key, where it is at home, where it is found (contracts).
  Conditions: the table lies in memory as is said at each.
-/
import Derived.Test.YtpljfhomnbcpdaaInts
import Derived.Test.YtpljfhomnbcpdaaTbl2
namespace Go.W
open Go Go.Proofs
open Enc (enc)
set_option maxRecDepth 10000

instance : Enc KeyD := ⟨3, fun x => [.int .i64 x.slot, .int .i64 x.dir, .int .i64 x.v], fun _ => rfl, by intro x u hu; simp at hu; rcases hu with rfl | rfl | rfl <;> rfl, by decide⟩
instance : Enc PlD := ⟨5, fun x => [.int .i64 x.key.slot, .int .i64 x.key.dir, .int .i64 x.key.v, .int .i64 x.n, .bool x.used], fun _ => rfl, by intro x u hu; simp at hu; rcases hu with rfl | rfl | rfl | rfl | rfl <;> rfl, by decide⟩
instance : EqT Try.prog E.api_Key KeyD := ⟨by kernel_rfl, fun d x y w => ⟨_, by
    rw [run_struct (l := [(E.int, 0), (E.int, 1), (E.int, 2)]) (by kernel_rfl) (d + 7)]
    exact eqL_int rfl rfl (eqL_int rfl rfl (eqL_int rfl rfl (eqL_nil _ _ _ _))), by cases x; cases y; simp⟩⟩

theorem may_sp {k : KeyD} {w : World} : Sp Try.prog F.table_may #[agg k] w fun v w' => Tells (mayK k) v ∧ Stp w w' := by
  refine en TBok rfl ?_
  refine rbx fun b w1 n1 B1 => ?_
  refine rld rfl ?_
  refine ite (fun h1 => ?_) (fun h1 => ⟨.f fun m => h1 m.1, stp⟩)
  refine rld rfl ?_
  refine ite (fun h2 => ?_) (fun h2 => ⟨.f fun m => h2 m.2.1, stp⟩)
  refine rld rfl ?_
  refine ite (fun h3 => ?pos) (fun h3 => ?neg)
  case' neg =>
    refine rld rfl ?_
    refine ite (fun h4 => ?one) (fun h4 => ⟨.f fun m => by have := m.2.2.1; omega, stp⟩)
  all_goals
    refine rld rfl ?_
    refine ite (fun h5 => ?_) (fun h5 => ⟨.f fun m => h5 m.2.2.2.1, stp⟩)
    refine rld rfl ?_
    refine ite (fun h6 => ?_) (fun h6 => ⟨.f fun m => h6 m.2.2.2.2, stp⟩)
    exact ⟨.t ⟨h1, h2, by omega, h5, h6⟩, stp⟩

theorem homeN_eq {n : Nat} (hn : 0 < n) (k : KeyD) : ((homeN n k : Nat) : Int) = (k.slot * 31 + k.dir * 17 + k.v * 7) % n := Int.toNat_of_nonneg (Int.emod_nonneg _ (by omega))
theorem home_sp {b n c : Nat} {a : Option Addr} {m u : Int} {k : KeyD} {w : World} (B : Bk w b [.slice a n c, .int .i64 m, .int .i64 u] E.table_Table) (hn : 0 < n ∧ n ≤ 1000) (hk : mayK k) :
    Sp Try.prog F.table_Table_home #[.pointer (some ⟨b, 0, none⟩), agg k] w fun v w' => v = .int .i64 ((homeN n k : Nat) : Int) ∧ Stp w w' := by
  have e := homeN_eq hn.1 k
  obtain ⟨h1, h2, h3, h4, h5⟩ := hk
  refine en TBok rfl ?_
  refine rbx fun bk w1 n1 B1 => ?_
  refine drawR TBok mixed (fun _ => False) (upF 18 0) (by kernel_rfl) fun u1 e1 _ => ?_
  refine tld (B := B1) rfl not_false (rar (by omega) ?_)
  refine tld (B := B1) rfl not_false (rar (by omega) (rar (by omega) ?_))
  refine tld (B := B1) rfl not_false (rar (by omega) (rar (by omega) ?_))
  refine tld (B := B) rfl not_false ?_
  refine rrem (by omega) (by omega) ?_
  exact ⟨congrArg (Value.int .i64) e.symm, stp⟩

def aftN (n i : Nat) : Nat := if i + 1 = n then 0 else i + 1
theorem aftN_on {n i : Nat} (h : i < n) : On n i 1 (aftN n i) := by unfold aftN On; split <;> omega
theorem after_sp {b n c i : Nat} {a : Option Addr} {m u : Int} {w : World} (B : Bk w b [.slice a n c, .int .i64 m, .int .i64 u] E.table_Table) (hn : 0 < n ∧ n ≤ 1000) (hi : i < n) :
    Sp Try.prog F.table_Table_after #[.pointer (some ⟨b, 0, none⟩), .int .i64 i] w fun v w' => v = .int .i64 ((aftN n i : Nat) : Int) ∧ Stp w w' := by
  have e : ((i : Int) + 1) % (n : Int) = ((aftN n i : Nat) : Int) := by
    unfold aftN
    split
    · rename_i h
      rw [show (i : Int) + 1 = (n : Int) by omega]; simp
    · rw [Int.emod_eq_of_lt (by omega) (by omega)]; rfl
  refine en TBok rfl ?_
  refine rar (by omega) ?_
  refine rld rfl ?_
  refine rrem (by omega) (by omega) ?_
  exact ⟨congrArg (Value.int .i64) e, stp⟩

/-! a table in memory -/
structure TabH (B : Nat) (w : World) (b : Nat) (a : Option Addr) (c most : Nat) (R : List PlD) : Prop where
  cell : Bk w b [.slice a (2 * most) c, .int .i64 most, .int .i64 (usedN R : Nat)] E.table_Table
  row : Own B E.table_place w (.slice a (2 * most) c) R
  len : R.length = 2 * most
  tab : TabL R
  bnd : 1 ≤ most ∧ most ≤ 400 ∧ usedN R ≤ most
  may : ∀ x ∈ R, x.used = true → mayK x.key
  zero : ∀ x ∈ R, x.used = false → x = zPl
theorem TabH.up {B : Nat} {w w' : World} [L : Le w w'] {b : Nat} {a : Option Addr} {c most : Nat} {R : List PlD} (h : TabH B w b a c most R) : TabH B w' b a c most R := ⟨h.cell.mv, h.row.up, h.len, h.tab, h.bnd, h.may, h.zero⟩
def distN (S a p : Nat) : Nat := if a ≤ p then p - a else p + S - a
theorem distN_on {S a d p : Nat} (hd : d < S) (h : On S a d p) : distN S a p = d := by unfold distN; unfold On at h; split <;> omega
theorem on_distN {S a p : Nat} (ha : a < S) (hp : p < S) : distN S a p < S ∧ On S a (distN S a p) p := by unfold distN On; split <;> omega

theorem find_sp {B b c most : Nat} {a : Option Addr} {R : List PlD} {k : KeyD} {w : World} (T : TabH B w b a c most R) (hk : mayK k) :
    Sp Try.prog F.table_Table_find #[.pointer (some ⟨b, 0, none⟩), agg k] w fun v w' => (∃ i : Nat, v = .int .i64 i ∧ FindAt R.length (rowF R) k i) ∧ Stp w w' := by
  have q_ := T.bnd
  obtain ⟨hm1, hm2, hm3⟩ := q_
  have hlen := T.len
  have hfree := free_there (R := R) (by omega)
  obtain ⟨p0, hp0, hf0⟩ := hfree
  have hh := homeN_lt (S := R.length) (by omega) k
  refine en TBok rfl ?_
  refine rbx fun bk w1 n1 B1 => ?_
  have C1 := T.cell.mv (w := w1)
  refine rldG (B := B1) rfl rfl ?_
  refine rcall (home_sp (k := k) C1 (by omega) hk) ?_
  rintro v w2 ⟨rfl, e2⟩
  rw [← hlen]
  refine loop1 TBok 6 [] 5 (fun v u => ∃ i d : Nat, v = .int .i64 i ∧ d < R.length ∧ On R.length (homeN R.length k) d i ∧ (∀ e p, e < d → On R.length (homeN R.length k) e p → (rowF R p).used = true ∧ (rowF R p).key ≠ k) ∧ Stp w1 u)
    (fun v _ => R.length - distN R.length (homeN R.length k) (Go.RowKit.intOf v).toNat) rfl ⟨homeN R.length k, 0, rfl, by omega, ⟨hh, by omega⟩, fun e p he => by omega, stp⟩ ?_
  rintro v g u ⟨i, d, rfl, hd, hi, hb, e⟩
  have hil := hi.1
  have hRi : rowF R i = R[i] := rowF_get hil
  have C := T.cell.mv (w := u)
  have O := T.row.sl.up (w' := u)
  refine drawR TBok mixed (fun _ => False) (upF 20 0) (by kernel_rfl) fun u1 e1 _ => ?_
  by_cases hu : R[i].used = true
  · refine tld (B := C) rfl not_false ?_
    refine tix (O.up (w' := u1)) (x := R[i]) (by simp) fun b4 o4 A4 _ => tload1 (v := .bool true) (A4.cell 4 (by simp [enc, hu])) not_false ?_
    refine tld (B := C) rfl not_false ?_
    refine tix (O.up (w' := u1)) (x := R[i]) (by simp) fun b5 o5 A5 _ => tloadA (cs := enc R[i].key) (A5.sub 0 3) rfl not_false ?_
    refine tldG (B := B1) rfl rfl not_false ?_
    refine tgne KeyD R[i].key k (fun hne => ?_) (fun he => ?_)
    · refine rcall (after_sp (n := 2 * most) (i := i) (C.mv (w := u1)) (by omega) (by omega)) ?_
      rintro v u2 ⟨rfl, e2'⟩
      have ha := aftN_on (n := R.length) hil
      rw [← hlen]
      have hlast : d + 1 < R.length := by
        have q_ := Nat.lt_or_ge (d + 1) R.length
        rcases q_ with h | h
        · exact h
        · exfalso
          have hd0 := on_distN hh hp0
          have q_ := Nat.lt_or_ge (distN R.length (homeN R.length k) p0) d
          rcases q_ with h' | h'
          · have := (hb _ p0 h' hd0.2).1; rw [hf0] at this; cases this
          · have : p0 = i := by have := hd0.1; have := hd0.2; unfold On at *; omega
            subst this; rw [hRi, hu] at hf0; cases hf0
      have ho : On R.length (homeN R.length k) (d + 1) (aftN R.length i) := by unfold On at *; omega
      refine ⟨⟨aftN R.length i, d + 1, rfl, hlast, ho, fun e p he hp => ?_, stp⟩, ?_⟩
      · have q_ := Nat.lt_or_ge e d
        rcases q_ with h' | h'
        · exact hb e p h' hp
        · have q_ : e = d := by omega
          obtain rfl := q_
          obtain rfl : p = i := by unfold On at hp hi; omega
          rw [hRi]; exact ⟨hu, hne⟩
      · show R.length - distN R.length (homeN R.length k) (aftN R.length i) < R.length - distN R.length (homeN R.length k) i
        rw [distN_on hlast ho, distN_on hd hi]; omega
    · exact ⟨⟨i, rfl, d, hd, hi, hb, fun _ => by rw [hRi]; exact he⟩, stp⟩
  · have hu : R[i].used = false := by simpa using hu
    refine tld (B := C) rfl not_false ?_
    refine tix (O.up (w' := u1)) (x := R[i]) (by simp) fun b4 o4 A4 _ => tload1 (v := .bool false) (A4.cell 4 (by simp [enc, hu])) not_false ?_
    exact ⟨⟨i, rfl, d, hd, hi, hb, fun h => by rw [hRi, hu] at h; cases h⟩, stp⟩
end Go.W
