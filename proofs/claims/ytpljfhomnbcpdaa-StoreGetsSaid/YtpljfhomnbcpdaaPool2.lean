/-
  Proved here: pools of the program: made, taken from, given back (contracts).
  Conditions: the row of a pool can be read, and is no longer than is said at each.
-/
import Derived.Test.YtpljfhomnbcpdaaPool
namespace Go.W
open Go Go.Proofs
open Enc (enc)
set_option maxRecDepth 10000

theorem pool_New_sp {size : Int} {w : World} : Sp Try.prog F.pool_New #[.int .i64 size] w fun v w' => (∃ pv, v = .tuple #[pv, .int .i64 (newP size).2] ∧ PoolO w.heap.size w' pv (newP size).1) ∧ Stp w w' := by
  refine en TBok rfl ?_
  refine ral fun b1 w1 n1 B1 => ?_
  unfold newP
  refine ite (fun h1 => ?_) (fun h1 => ?_)
  · rw [if_pos (.inl h1)]
    refine rbuild (cs := [.int .i64 0, .slice none 0 0]) rfl ?_
    refine rsto (vs := [.int .i64 0, .slice none 0 0]) rfl rfl rfl (pl_one _ _ _ _) fun w2 B2 f2 _ => ?_
    have s2 : Stp w w2 := ⟨Fr.st Le.e f2 fun i hi => by subst hi; exact n1.lo⟩
    refine rresG rfl ?_
    exact ⟨⟨_, rfl, zP_o _ _⟩, stp⟩
  refine ite (fun h2 => ?_) (fun h2 => ?_)
  · rw [if_pos (.inr h2)]
    refine rbuild (cs := [.int .i64 0, .slice none 0 0]) rfl ?_
    refine rsto (vs := [.int .i64 0, .slice none 0 0]) rfl rfl rfl (pl_one _ _ _ _) fun w2 B2 f2 _ => ?_
    have s2 : Stp w w2 := ⟨Fr.st Le.e f2 fun i hi => by subst hi; exact n1.lo⟩
    refine rresG rfl ?_
    exact ⟨⟨_, rfl, zP_o _ _⟩, stp⟩
  rw [if_neg (by omega)]
  have q_ := Int.eq_ofNat_of_zero_le (show (0 : Int) ≤ size by omega)
  obtain ⟨N, rfl⟩ := q_
  rw [Int.toNat_natCast]
  have hdl := downTo_len N
  refine rbuild (cs := [.int .i64 (N : Nat), .slice none 0 0]) rfl ?_
  refine ral fun b2 w2 n2 B2 => ?_
  refine rsto (vs := [.int .i64 (N : Nat), .slice none 0 0]) rfl rfl rfl (pl_one _ _ _ _) fun w3 B3 f3 _ => ?_
  have s3 : Stp w1 w3 := ⟨Fr.st Le.e f3 fun i hi => by subst hi; exact n2.lo⟩
  refine cnt TBok 16 [5] 16 N (fun k u => ∃ a c, Bk u b2 [.int .i64 (N : Nat), .slice a k c] E.api_Pool ∧ Own w1.heap.size E.int u (.slice a k c) ((downTo N).take k) ∧ Stp w1 u) rfl rfl ⟨none, 0, B3, Own.nil _ _ _, stp⟩ ?_
  rintro k g u hk ⟨a, c, Bp, O, e⟩
  clear B3
  refine ite (fun hlt => ?_) (fun hge => ?_)
  · have hka : k < N := by omega
    refine rld (B := Bp) rfl ?_
    refine rar (by omega) (rar (by omega) ?_)
    refine rbs1 ((N : Int) - 1 - k) rfl rfl (by decide) fun b4 w4 e4 _ S4 => ?_
    refine rapp1 (u := w1) ⟨rfl, rfl⟩ O.up S4 (by rw [List.length_take]; omega) fun v5 w5 O5 f5 s5 => ?_
    have Bp5 := (Bp.mv (w := w4)).fro O.up f5 (by decide)
    have hn5 : ((downTo N).take k ++ [((N : Int) - 1 - k)]) = (downTo N).take (k + 1) := by
      rw [downTo_succ hka, show (((N - 1 - k : Nat)) : Int) = (N : Int) - 1 - k by omega]
    rw [hn5] at O5
    have hl5 : ((downTo N).take (k + 1)).length = k + 1 := by rw [List.length_take]; omega
    have q5 := O5.shape
    rw [hl5] at q5
    obtain ⟨a5, c5, rfl⟩ := q5
    refine rsto (B := Bp5) (vs := [.slice a5 (k + 1) c5]) rfl rfl rfl (by simp; rfl) fun w6 B6 f6 _ => ?_
    have s6 : Stp w1 w6 := ⟨Fr.st Le.e f6 fun i hi => by subst hi; exact n2.lo⟩
    exact rar (by omega) ⟨rfl, hka, a5, c5, B6, O5.frc f6 Bp5 (by decide), s6⟩
  · have q_ : k = N := by omega
    obtain rfl := q_
    refine rldG (B := Bp) rfl rfl ?_
    have C1 := B1.mv (w := u)
    refine rsto (B := C1) (vs := [.int .i64 (k : Nat), .slice a k c]) rfl rfl rfl (pl_one _ _ _ _) fun w6 B6 f6 _ => ?_
    have s6 : Stp w w6 := ⟨Fr.st Le.e f6 fun i hi => by subst hi; exact n1.lo⟩
    refine rresG rfl ?_
    have O6 := O.frc f6 C1 (by decide)
    rw [List.take_of_length_le (by omega)] at O6
    exact ⟨⟨_, rfl, (PoolO.mk O6).older⟩, stp⟩

theorem pool_Give_sp {sz m : Int} {a : Option Addr} {n c : Nat} {l : List Int} {w : World} (h : SlF w (.slice a n c) l) (hn : l.length ≤ 100000) :
    Sp Try.prog F.pool_Give #[plV sz a n c, .int .i64 m] w fun v w' => (∃ pv, v = .tuple #[pv, .int .i64 (giveP (sz, l) m).2] ∧ PoolO w.heap.size w' pv (giveP (sz, l) m).1) ∧ Stp w w' := by
  have q_ := h.len
  obtain rfl := q_
  refine en TBok rfl ?_
  refine rbx fun b1 w1 n1 B1 => ral fun b3 w2 n2 B3 => ?_
  have hb1 := n1.b; have hb3 := n2.b; have hs1 := n1.s; have hs2 := n2.s
  have zero : ∀ (e : Int) (u : World), Stp w2 u → giveP (sz, l) m = (zP, e) → ∀ w4, Bk w4 b3 [.int .i64 0, .slice none 0 0] E.api_Pool → Fr (fun i => i = b3) u w4 → (∃ pv, Value.tuple #[plV 0 none 0 0, .int .i64 e] = .tuple #[pv, .int .i64 (giveP (sz, l) m).2] ∧ PoolO w.heap.size w4 pv (giveP (sz, l) m).1) ∧ Stp w w4 := by
    intro e u s ht w4 _ f4
    rw [ht]
    exact ⟨⟨_, rfl, zP_o _ _⟩, ⟨Fr.st Le.e f4 fun i hi => by subst hi; exact n2.lo⟩⟩
  refine rldG rfl rfl ?_
  refine rcall (pool_Check_sp (h.up (w' := w2)) (by omega)) ?_
  rintro v w3 ⟨⟨rfl, ho⟩ | ⟨rfl, ho⟩, e3⟩
  · refine ite (fun h1 => ?_) (fun h1 => ?_)
    · refine rbuild (cs := [.int .i64 0, .slice none 0 0]) rfl ?_
      refine rsto (vs := [.int .i64 0, .slice none 0 0]) rfl rfl rfl (pl_one _ _ _ _) fun w4 B4 f4 _ => ?_
      refine rresG rfl ?_
      exact zero 1 _ stp (by unfold giveP; rw [if_pos ho, if_pos (.inl h1)]) w4 B4 f4
    refine rld rfl ?_
    refine ite (fun h2 => ?_) (fun h2 => ?_)
    · refine rbuild (cs := [.int .i64 0, .slice none 0 0]) rfl ?_
      refine rsto (vs := [.int .i64 0, .slice none 0 0]) rfl rfl rfl (pl_one _ _ _ _) fun w4 B4 f4 _ => ?_
      refine rresG rfl ?_
      exact zero 1 _ stp (by unfold giveP; rw [if_pos ho, if_pos (.inr h2)]) w4 B4 f4
    refine rld rfl ?_
    refine rcall (Contains_int_sp (h.up (w' := w3)) (by omega)) ?_
    rintro v w4 ⟨⟨rfl, hi⟩ | ⟨rfl, hi⟩, e4⟩
    · refine rbuild (cs := [.int .i64 0, .slice none 0 0]) rfl ?_
      refine rsto (vs := [.int .i64 0, .slice none 0 0]) rfl rfl rfl (pl_one _ _ _ _) fun w5 B5 f5 _ => ?_
      refine rresG rfl ?_
      exact zero 150 _ stp (by unfold giveP; rw [if_pos ho, if_neg (fun h => h.elim h1 h2), if_pos hi]) w5 B5 f5
    · have hg : giveP (sz, l) m = ((sz, l ++ [m]), 0) := by unfold giveP; rw [if_pos ho, if_neg (fun h => h.elim h1 h2), if_neg hi]
      rw [hg]
      refine drawRT TBok mixed (fun i => i = b3 ∨ w2.heap.size ≤ i) (.one 0 (.one 1 (.one 2 (.one 3 (.one 5 (.two 4 (.one 6 (.one 7 (.one 8 (.one 9 (.one 10 .nil))))) 6 (.one 4 (.one 7 (.one 8 (.one 9 (.one 10 .nil))))))))))) (by kernel_rfl) fun u1 e1 _ => ?_
      refine tld rfl (by omega) ?_
      refine tld rfl (by omega) ?_
      refine ⟨?_, ?_⟩
      · refine rcall (Clone_int_sp (h.up (w' := u1)) (by omega)) ?_
        rintro v w5 ⟨O5, e5⟩
        refine ⟨e5.e.fr, ?_⟩
        refine rbs1 m rfl rfl (by decide) fun b6 w6 e6 _ S6 => ⟨e6.e.fr, ?_⟩
        refine rapp1 (u := u1) ⟨rfl, rfl⟩ O5.up S6 (by omega) fun v7 w7 O7 f7 s7 => ⟨s7.e.mono fun i _ hi => .inr (Nat.le_trans (Le.size (a := w2) (b := u1)) hi), ?_⟩
        have q_ := O7.shape
        obtain ⟨a7, c7, rfl⟩ := q_
        refine tbuild (cs := [.int .i64 sz, .slice a7 (l ++ [m]).length c7]) rfl ?_
        have C3 := B3.mv (w := w7)
        refine rsto (B := C3) (vs := [.int .i64 sz, .slice a7 (l ++ [m]).length c7]) rfl rfl rfl (pl_one _ _ _ _) fun w8 B8 f8 _ => ?_
        have s8 : Stp w w8 := ⟨Fr.st Le.e f8 fun i hi => by subst hi; exact n2.lo⟩
        refine ⟨f8.mono fun i _ hi => .inl hi, ?_⟩
        refine rresG rfl ?_
        exact ⟨⟨_, rfl, (PoolO.mk (O7.frc f8 C3 (by decide))).older⟩, stp⟩
      · refine rbs1 m rfl rfl (by decide) fun b6 w6 e6 _ S6 => ⟨e6.e.fr, ?_⟩
        refine rcall (Clone_int_sp (h.up (w' := w6)) (by omega)) ?_
        rintro v w5 ⟨O5, e5⟩
        refine ⟨e5.e.fr, ?_⟩
        refine rapp1 (u := w6) ⟨rfl, rfl⟩ O5.up (S6.up (w' := w5)) (by omega) fun v7 w7 O7 f7 s7 => ⟨s7.e.mono fun i _ hi => .inr (Nat.le_trans (Le.size (a := w2) (b := w6)) hi), ?_⟩
        have q_ := O7.shape
        obtain ⟨a7, c7, rfl⟩ := q_
        refine tbuild (cs := [.int .i64 sz, .slice a7 (l ++ [m]).length c7]) rfl ?_
        have C3 := B3.mv (w := w7)
        refine rsto (B := C3) (vs := [.int .i64 sz, .slice a7 (l ++ [m]).length c7]) rfl rfl rfl (pl_one _ _ _ _) fun w8 B8 f8 _ => ?_
        have s8 : Stp w w8 := ⟨Fr.st Le.e f8 fun i hi => by subst hi; exact n2.lo⟩
        refine ⟨f8.mono fun i _ hi => .inl hi, ?_⟩
        refine rresG rfl ?_
        exact ⟨⟨_, rfl, (PoolO.mk (O7.frc f8 C3 (by decide))).older⟩, stp⟩
  · refine rbuild (cs := [.int .i64 0, .slice none 0 0]) rfl ?_
    refine rsto (vs := [.int .i64 0, .slice none 0 0]) rfl rfl rfl (pl_one _ _ _ _) fun w4 B4 f4 _ => ?_
    refine rresG rfl ?_
    exact zero 130 _ stp (by unfold giveP; rw [if_neg ho]) w4 B4 f4
end Go.W
