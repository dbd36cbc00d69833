/-
  Proved here: numbers compared by the library (contracts).
  Conditions: none.
-/
import Derived.Test.YtpljfhomnbcpdaaInts
import Derived.Test.YtpljfhomnbcpdaaW21
import Derived.Test.YtpljfhomnbcpdaaW22
namespace Go.W
open Go Go.Proofs
open Enc (enc)
set_option maxRecDepth 10000

def cmpI (x y : Int) : Int := if x < y then -1 else if y < x then 1 else 0
def orI : List Int → Int
  | [] => 0
  | x :: r => if x = 0 then orI r else x
theorem cmp_isNaN_sp {x : Int} {w : World} : Sp Try.prog F.cmp_isNaN_int #[.int .i64 x] w fun v w' => v = .bool false ∧ w' = w := by
  refine en TBok rfl ?_
  refine ite (fun h => absurd rfl h) (fun _ => ?_)
  exact ⟨rfl, rfl⟩
theorem cmp_Compare_sp {x y : Int} {w : World} : Sp Try.prog F.cmp_Compare_int #[.int .i64 x, .int .i64 y] w fun v w' => v = .int .i64 (cmpI x y) ∧ w' = w := by
  unfold cmpI
  refine en TBok rfl ?_
  refine rcall (cmp_isNaN_sp) ?_
  rintro v w1 ⟨rfl, rfl⟩
  refine rcall (cmp_isNaN_sp) ?_
  rintro v w2 ⟨rfl, rfl⟩
  refine ite (fun h1 => ?_) (fun h1 => ?_)
  · rw [if_pos h1]; exact ⟨rfl, rfl⟩
  rw [if_neg h1]
  refine ite (fun h2 => ?_) (fun h2 => ?_)
  · rw [if_pos h2]; exact ⟨rfl, rfl⟩
  rw [if_neg h2]; exact ⟨rfl, rfl⟩
theorem orI_drop {l : List Int} {k : Nat} (h : k < l.length) : orI (l.drop k) = if l[k] = 0 then orI (l.drop (k + 1)) else l[k] := by
  rw [List.drop_eq_getElem_cons h]; rfl
theorem cmp_Or_sp {a : Option Addr} {n c : Nat} {l : List Int} {w : World} (h : SlF w (.slice a n c) l) (hn : l.length ≤ 1000000) : Sp Try.prog F.cmp_Or_int #[.slice a n c] w fun v w' => v = .int .i64 (orI l) ∧ w' = w := by
  have q_ := h.len
  obtain rfl := q_
  refine en TBok rfl ?_
  refine cnt TBok 8 [2,5] 8 l.length (fun k u => orI (l.drop k) = orI l ∧ u = w) rfl rfl ⟨rfl, rfl⟩ ?_
  rintro k g u hk ⟨hd, rfl⟩
  refine ite (fun hlt => ?_) (fun hge => ?_)
  · have hka : k < l.length := by omega
    refine rix h (x := l[k]) (by simp) fun b1 o1 A1 => rload1 (A1.cell0 rfl) ?_
    have e := orI_drop hka
    refine ite (fun hne => ?_) (fun he => ?_)
    · rw [if_neg hne] at e
      rw [← hd, e]; exact ⟨rfl, rfl⟩
    · have he := Classical.not_not.1 he
      rw [if_pos he] at e
      exact rar (by omega) ⟨rfl, hka, by rw [← e, hd], rfl⟩
  · have q_ : k = l.length := by omega
    obtain rfl := q_
    rw [List.drop_length] at hd
    rw [← hd]; exact ⟨rfl, rfl⟩

theorem or_neg (x y : Int) (r : List Int) : orI (cmpI x y :: r) < 0 ↔ x < y ∨ x = y ∧ orI r < 0 := by
  rw [show orI (cmpI x y :: r) = if cmpI x y = 0 then orI r else cmpI x y from rfl]
  have q_ := Int.lt_trichotomy x y
  rcases q_ with h | h | h
  · have e : cmpI x y = -1 := by unfold cmpI; rw [if_pos h]
    rw [e, if_neg (by decide)]
    exact ⟨fun _ => .inl h, fun _ => by decide⟩
  · have e : cmpI x y = 0 := by unfold cmpI; rw [if_neg (by omega), if_neg (by omega)]
    rw [e, if_pos rfl]
    exact ⟨fun h1 => .inr ⟨h, h1⟩, fun h1 => h1.elim (fun h2 => by omega) (·.2)⟩
  · have e : cmpI x y = 1 := by unfold cmpI; rw [if_neg (by omega), if_pos h]
    rw [e, if_neg (by decide)]
    exact ⟨fun h1 => absurd h1 (by decide), fun h1 => by omega⟩
theorem or_nil : ¬ orI [] < 0 := by decide
/-! orders -/
theorem swo_of {α : Type} {cf : α → α → Int} (lt : α → α → Prop) (h : ∀ x y, cf x y < 0 ↔ lt x y) (h1 : ∀ x, ¬ lt x x) (h2 : ∀ x y z, lt x y → lt y z → lt x z) (h3 : ∀ x y z, ¬ lt x y → ¬ lt y z → ¬ lt x z) : Go.Sort.SWO (ltOf cf) :=
  ⟨fun x => by simpa [ltOf, h] using h1 x, fun x y z => by simpa [ltOf, h] using h2 x y z, fun x y z => by
    have := h3 x y z
    simp only [ltOf, decide_eq_false_iff_not, h]; exact this⟩
end Go.W
