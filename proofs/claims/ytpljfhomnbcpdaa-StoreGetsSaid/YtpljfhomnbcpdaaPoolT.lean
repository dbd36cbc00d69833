/-
  Proved here: many are taken from a pool, as the reference has it; pools of the program: right or not (contracts).
  Conditions: the row of a pool can be read, and is no longer than is said at each.
-/
import Derived.Test.YtpljfhomnbcpdaaPoolR
namespace Go.W
open Go Go.Proofs
open Enc (enc)
set_option maxRecDepth 10000

theorem okP_take {sz : Int} {l : List Int} (h : okP sz l) (k : Nat) : okP sz (l.take k) :=
  ⟨h.1, h.2.1, fun x hx => h.2.2.1 x (List.mem_of_mem_take hx), h.2.2.2.sublist (List.take_sublist _ _)⟩
theorem takeP_at {sz : Int} {l : List Int} (h : okP sz l) {k : Nat} (hk : k < l.length) : takeP (sz, l.take (l.length - k)) = (l[l.length - 1 - k], (sz, l.take (l.length - (k + 1))), 0) := by
  unfold takeP
  rw [if_pos (okP_take h _)]
  have h1 : (l.take (l.length - k)).getLast? = some l[l.length - 1 - k] := by
    rw [List.getLast?_eq_getElem?, List.length_take, List.getElem?_take]
    rw [if_pos (by omega), show min (l.length - k) l.length - 1 = l.length - 1 - k by omega, List.getElem?_eq_getElem]
  have h2 : (l.take (l.length - k)).dropLast = l.take (l.length - (k + 1)) := by
    rw [List.dropLast_eq_take, List.take_take, List.length_take]; congr 1; omega
  simp only [h1, h2]
theorem rev_take {l : List Int} {k : Nat} (hk : k < l.length) : (l.drop (l.length - (k + 1))).reverse = (l.drop (l.length - k)).reverse ++ [l[l.length - 1 - k]] := by
  have e : l.length - (k + 1) = l.length - 1 - k := by omega
  rw [e, List.drop_eq_getElem_cons (by omega), List.reverse_cons, show l.length - 1 - k + 1 = l.length - k by omega]

set_option maxHeartbeats 400000 in
theorem r13_Takes_sp {sz m : Int} {a : Option Addr} {n c : Nat} {l : List Int} {w : World} (h : SlF w (.slice a n c) l) (hn : l.length ≤ 100000) :
    Sp Try.prog F.r13_Takes #[plV sz a n c, .int .i64 m] w fun v w' => (∃ lv pv, v = .tuple #[lv, pv, .int .i64 (takesP (sz, l) m).2.2] ∧ Own w.heap.size E.int w' lv (takesP (sz, l) m).1 ∧ PoolO w.heap.size w' pv (takesP (sz, l) m).2.1) ∧ Stp w w' := by
  have q_ := h.len
  obtain rfl := q_
  refine en TBok rfl ?_
  refine rbx fun b1 w1 n1 B1 => ral fun b3 w2 n2 B3 => ?_
  have hb1 := n1.b; have hb3 := n2.b; have hs1 := n1.s; have hs2 := n2.s
  have zero : ∀ (e : Int) (u : World), Stp w2 u → takesP (sz, l) m = ([], zP, e) → ∀ w4, Bk w4 b3 [.int .i64 0, .slice none 0 0] E.api_Pool → Fr (fun i => i = b3) u w4 → (∃ lv pv, Value.tuple #[.slice none 0 0, plV 0 none 0 0, .int .i64 e] = .tuple #[lv, pv, .int .i64 (takesP (sz, l) m).2.2] ∧ Own w.heap.size E.int w4 lv (takesP (sz, l) m).1 ∧ PoolO w.heap.size w4 pv (takesP (sz, l) m).2.1) ∧ Stp w w4 := by
    intro e u s ht w4 _ f4
    rw [ht]
    exact ⟨⟨_, _, rfl, Own.nil _ _ _, zP_o _ _⟩, ⟨Fr.st Le.e f4 fun i hi => by subst hi; exact n2.lo⟩⟩
  refine rldG rfl rfl ?_
  refine rcall (r13_Check_sp (h.up (w' := w2)) (by omega)) ?_
  rintro v w3 ⟨⟨rfl, ho⟩ | ⟨rfl, ho⟩, e3⟩
  · refine ite (fun h1 => ?_) (fun h1 => ?_)
    · refine rbuild (cs := [.int .i64 0, .slice none 0 0]) rfl ?_
      refine rsto (vs := [.int .i64 0, .slice none 0 0]) rfl rfl rfl (pl_one _ _ _ _) fun w4 B4 f4 _ => ?_
      refine rresG rfl ?_
      exact zero 1 _ stp (by unfold takesP; rw [if_pos ho, if_pos h1]) w4 B4 f4
    refine rld rfl ?_
    refine ite (fun h2 => ?_) (fun h2 => ?_)
    · refine rbuild (cs := [.int .i64 0, .slice none 0 0]) rfl ?_
      refine rsto (vs := [.int .i64 0, .slice none 0 0]) rfl rfl rfl (pl_one _ _ _ _) fun w4 B4 f4 _ => ?_
      refine rresG rfl ?_
      exact zero 140 _ stp (by unfold takesP; rw [if_pos ho, if_neg h1, if_pos h2]) w4 B4 f4
    have q_ := Int.eq_ofNat_of_zero_le (show (0 : Int) ≤ m by omega)
    obtain ⟨M, rfl⟩ := q_
    have ht : takesP (sz, l) (M : Nat) = ((l.drop (l.length - M)).reverse, (sz, l.take (l.length - M)), 0) := by
      unfold takesP; rw [if_pos ho, if_neg h1, if_neg h2]; rfl
    rw [ht]
    have C1 := B1.mv (w := w3); have C3 := B3.mv (w := w3)
    refine cnt1 TBok 12 [9, 10, 11] 7 8 M (fun k v u => ∃ oa oc sa scc, v = .slice oa k oc ∧ Own w.heap.size E.int u (.slice oa k oc) (l.drop (l.length - k)).reverse ∧ Bk u b1 [.int .i64 sz, .slice sa (l.length - k) scc] E.api_Pool ∧ Bk u b3 [.int .i64 0, .slice none 0 0] E.api_Pool ∧ ((k = 0 ∧ sa = a ∧ scc = c) ∨ Own w.heap.size E.int u (.slice sa (l.length - k) scc) (l.take (l.length - k))) ∧ Stp w u) rfl rfl
      ⟨none, 0, a, c, rfl, by have := Own.nil (α := Int) w.heap.size E.int w3; simpa using this, C1, C3, .inl ⟨rfl, rfl, rfl⟩, stp⟩ ?_
    rintro k v g u hk ⟨oa, oc, sa, scc, rfl, O, B1', B3', hs, e⟩
    have hS : SlF u (.slice sa (l.length - k) scc) (l.take (l.length - k)) := by
      rcases hs with ⟨rfl, rfl, rfl⟩ | hs
      · rw [Nat.sub_zero, List.take_of_length_le (Nat.le_refl _)]; exact h.up
      · exact hs.sl
    clear C1 C3
    refine ite (fun hlt => ?_) (fun hge => ?_)
    · have hka : k < M := by omega
      have T := r13_Take_sp (sz := sz) hS (by rw [List.length_take]; omega)
      rw [takeP_at ho (show k < l.length by omega)] at T
      refine rldG rfl rfl ?_
      refine rcall T ?_
      rintro v u1 ⟨⟨pv, rfl, ⟨a4, c4, rfl, O4⟩⟩, e4⟩
      have hl4 : (l.take (l.length - (k + 1))).length = l.length - (k + 1) := by rw [List.length_take]; omega
      dsimp only at O4
      rw [hl4] at O4
      refine ral fun b5 w5 n5 B5 => ?_
      refine rsto (vs := [.int .i64 sz, .slice a4 (l.length - (k + 1)) c4]) (by show [_, _] = _; rw [hl4]) rfl rfl (pl_one _ _ _ _) fun w6 B6 f6 _ => ?_
      have s6 : Stp u1 w6 := ⟨Fr.st Le.e f6 fun i hi => by subst hi; exact n5.lo⟩
      refine rbs1 (l[l.length - 1 - k]'(by omega)) rfl rfl (by decide) fun b7 w7 e7 _ S7 => ?_
      have hlo : (l.drop (l.length - k)).reverse.length = k := by rw [List.length_reverse, List.length_drop]; omega
      refine rapp1 (u := w) ⟨rfl, rfl⟩ (O.up (w' := w7)) S7 (by rw [hlo]; omega) fun v8 w8 O8 f8 s8 => ?_
      have D1 := (B1'.mv (w := w7)).fro O.up f8 (by decide)
      have D3 := (B3'.mv (w := w7)).fro O.up f8 (by decide)
      have D5 := (B6.mv (w := w7)).fro O.up f8 (by decide)
      have P4 := (O4.up (w' := w7)).fr f8 fun b hb _ hd => by have := O.wr hd; have := Le.size (a := u) (b := u1); omega
      rw [← rev_take (show k < l.length by omega)] at O8
      have hl8 : (l.drop (l.length - (k + 1))).reverse.length = k + 1 := by rw [List.length_reverse, List.length_drop]; omega
      have q8 := O8.shape
      rw [hl8] at q8
      obtain ⟨a8, c8, rfl⟩ := q8
      refine rldG rfl rfl ?_
      refine rsto (B := D1) (vs := [.int .i64 sz, .slice a4 (l.length - (k + 1)) c4]) rfl rfl rfl (pl_one _ _ _ _) fun w9 B9 f9 _ => ?_
      have s9 : Stp w w9 := ⟨Fr.st Le.e f9 fun i hi => by subst hi; exact n1.lo⟩
      have D3' := D3.fr f9 (by omega)
      exact rar (by omega) ⟨rfl, hka, a8, c8, a4, c4, rfl, O8.frc f9 D1 (by decide), B9, D3', .inr ((P4.frc f9 D1 (by decide)).mono (Le.size (a := w) (b := u))), stp⟩
    · have q_ : k = M := by omega
      obtain rfl := q_
      refine rldG (B := B1') rfl rfl ?_
      refine rcall (r13_Own_sp (sz := sz) hS (by rw [List.length_take]; omega)) ?_
      rintro v u1 ⟨⟨a4, c4, rfl, O4⟩, e4⟩
      have hl4 : (l.take (l.length - k)).length = l.length - k := by rw [List.length_take]; omega
      dsimp only at O4
      rw [hl4] at O4
      have C3' := B3'.mv (w := u1)
      refine rsto (B := C3') (vs := [.int .i64 sz, .slice a4 (l.length - k) c4]) (by show [_, _] = _; rw [hl4]) rfl rfl (pl_one _ _ _ _) fun w9 B9 f9 _ => ?_
      have s9 : Stp w w9 := ⟨Fr.st Le.e f9 fun i hi => by subst hi; have := Le.size (a := w) (b := w1); omega⟩
      refine rresG rfl ?_
      exact ⟨⟨_, _, rfl, (O.up (w' := u1)).frc f9 C3' (by decide), (PoolO.mk (O4.frc f9 C3' (by decide))).older⟩, stp⟩
  · refine rbuild (cs := [.int .i64 0, .slice none 0 0]) rfl ?_
    refine rsto (vs := [.int .i64 0, .slice none 0 0]) rfl rfl rfl (pl_one _ _ _ _) fun w4 B4 f4 _ => ?_
    refine rresG rfl ?_
    exact zero 130 _ stp (by unfold takesP; rw [if_neg ho]) w4 B4 f4
end Go.W
