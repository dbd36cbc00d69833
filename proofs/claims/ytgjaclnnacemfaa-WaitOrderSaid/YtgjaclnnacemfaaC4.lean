/-
  Proved here: what Take answers, and what is too large to be looked at (contracts).
  Conditions: the rows can be read, and are no longer than is said at each.
-/
import Derived.Test.YtgjaclnnacemfaaC3
namespace Go.W
open Go Go.Proofs
open Enc (enc)
set_option maxRecDepth 10000

theorem part_take {α : Type} (l : List α) (k : Nat) : (l.drop 0).take (k - 0) = l.take k := by simp
theorem part_drop {α : Type} (l : List α) (k : Nat) : (l.drop k).take (l.length - k) = l.drop k := by rw [List.take_of_length_le (by simp)]

theorem wait_Take_sp {a : Option Addr} {n c : Nat} {l : List RReq} {id : Int} {w : World} (h : SlF w (.slice a n c) l) (hn : l.length ≤ 100000) :
    Sp Try.prog F.wait_Take #[.slice a n c, .int .i64 id] w fun v w' => (∃ v', v = .tuple #[v', .bool (takeR l id).2] ∧ Own w.heap.size E.api_Request w' v' (takeR l id).1) ∧ Ext w w' := by
  obtain rfl := h.len
  refine en TBok rfl ?_
  refine rcall (wait_Place_sp h (by omega)) ?_
  rintro v w1 ⟨rfl, e1⟩
  unfold takeR
  rcases plcV_cases l id with ⟨hp, hv⟩ | ⟨k, hp, hv⟩ <;> rw [hv, hp]
  · refine rcall (wait_joined_sp (lb := []) (h.ext e1) (SlF.nil w1) ⟨by omega, by simp⟩) ?_
    rintro v2 w2 ⟨O2, e2⟩
    exact ⟨⟨v2, rfl, by simpa using O2.mono e1.size⟩, e1.t e2⟩
  · obtain ⟨hk, _⟩ := plc_lt hp
    refine drawR TBok mixed (fun _ => False) (upF 10 0) (by kernel_rfl) fun w2 e2 _ => ?_
    have E2 := e1.t e2
    refine tsl none (some k) (h.ext E2) (by simp) (by simp; omega) fun a1 c1 S1 => ?_
    refine rar (by omega) ?_
    refine tsl (some (k + 1)) none (h.ext E2) (by simp; omega) (by simp) fun a2 c2 S2 => ?_
    simp only [Option.getD_none, Option.getD_some, part_take, part_drop] at S1 S2
    refine rcall (wait_joined_sp S1 S2 ⟨by simp; omega, by simp; omega⟩) ?_
    rintro v3 w3 ⟨O3, e3⟩
    exact ⟨e3, ⟨v3, rfl, O3.mono E2.size⟩, E2.t e3⟩

/-- the first k, without the one at p -/
def without {α : Type} (l : List α) (p k : Nat) : List α := if k ≤ p then l.take k else l.take p ++ (l.drop (p + 1)).take (k - (p + 1))
theorem without_len {α : Type} (l : List α) (p k : Nat) : (without l p k).length ≤ 2 * l.length := by unfold without; split <;> simp <;> omega
theorem without_next {α : Type} {l : List α} {p k : Nat} (hka : k < l.length) (h : k ≠ p) : without l p (k + 1) = without l p k ++ [l[k]] := by
  unfold without
  by_cases hkp : k < p
  · rw [if_pos (by omega), if_pos (by omega), List.take_succ_eq_append_getElem hka]
  · rw [if_neg (by omega), if_neg (by omega)]
    have : (l.drop (p + 1)).take (k + 1 - (p + 1)) = (l.drop (p + 1)).take (k - (p + 1)) ++ [l[k]] := by
      rw [show k + 1 - (p + 1) = k - (p + 1) + 1 by omega, List.take_succ_eq_append_getElem (by simp; omega)]
      congr 2; simp; congr 1; omega
    rw [this, ← List.append_assoc]
theorem without_at {α : Type} (l : List α) (p : Nat) : without l p (p + 1) = without l p p := by unfold without; rw [if_neg (by omega), if_pos (Nat.le_refl _)]; simp
theorem without_all {α : Type} {l : List α} {p : Nat} (h : p < l.length) : without l p l.length = l.take p ++ l.drop (p + 1) := by
  unfold without; rw [if_neg (by omega), part_drop]

theorem r23_Take_sp {a : Option Addr} {n c : Nat} {l : List RReq} {id : Int} {w : World} (h : SlF w (.slice a n c) l) (hn : l.length ≤ 100000) :
    Sp Try.prog F.r23_Take #[.slice a n c, .int .i64 id] w fun v w' => (∃ v', v = .tuple #[v', .bool (takeR l id).2] ∧ Own w.heap.size E.api_Request w' v' (takeR l id).1) ∧ Ext w w' := by
  obtain rfl := h.len
  refine en TBok rfl ?_
  refine rcall (r23_Place_sp h (by omega)) ?_
  rintro v w1 ⟨rfl, e1⟩
  unfold takeR
  rcases plcV_cases l id with ⟨hp, hv⟩ | ⟨p, hp, hv⟩ <;> rw [hv, hp]
  · refine loop2 TBok 10 [4, 5] 8 9 (fun out i w' => ∃ k : Nat, k ≤ l.length ∧ i = .int .i64 k ∧ Own w.heap.size E.api_Request w' out (l.take k) ∧ Ext w w') (fun _ i _ => l.length - (Go.RowKit.intOf i).toNat) rfl ⟨0, by omega, rfl, Own.nil _ _ _, e1⟩ ?_
    rintro out i g w' ⟨k, hk, rfl, hO, e⟩
    refine ite (fun hlt => ?_) (fun hge => ?_)
    · have hka : k < l.length := by omega
      refine rix (h.ext e) (x := l[k]) (by simp) fun b o A => ?_
      refine rloadA A rfl ?_
      refine rbs1 l[k] rfl rfl (by decide) fun b4 w4 e4 _ S4 => ?_
      refine rapp (B := w.heap.size) (v := out) (l := l.take k) (m := [l[k]]) ⟨rfl, rfl⟩ (hO.ext e4) S4 (e.t e4).size (by simp; omega) fun v5 w5 O5 f5 => ?_
      rw [← List.take_succ_eq_append_getElem hka] at O5
      refine rar (by omega) ⟨⟨k + 1, by omega, rfl, O5, Fr.st (e.t e4) f5 fun i hi => hi.1⟩, ?_⟩
      show _ - (k + 1) < _ - k; omega
    · obtain rfl : k = l.length := by omega
      exact ⟨⟨out, rfl, by simpa using hO⟩, e⟩
  · obtain ⟨hpl, _⟩ := plc_lt hp
    refine loop2 TBok 10 [4, 5] 8 9 (fun out i w' => ∃ k : Nat, k ≤ l.length ∧ i = .int .i64 k ∧ Own w.heap.size E.api_Request w' out (without l p k) ∧ Ext w w') (fun _ i _ => l.length - (Go.RowKit.intOf i).toNat) rfl ⟨0, by omega, rfl, (show Own w.heap.size E.api_Request w1 (.slice none 0 0) (without l p 0) by simpa [without] using Own.nil _ _ _), e1⟩ ?_
    rintro out i g w' ⟨k, hk, rfl, hO, e⟩
    refine ite (fun hlt => ?_) (fun hge => ?_)
    · have hka : k < l.length := by omega
      refine ite (fun hne => ?_) (fun heq => ?_)
      · refine rix (h.ext e) (x := l[k]) (by simp) fun b o A => ?_
        refine rloadA A rfl ?_
        refine rbs1 l[k] rfl rfl (by decide) fun b4 w4 e4 _ S4 => ?_
        refine rapp (B := w.heap.size) (v := out) (l := without l p k) (m := [l[k]]) ⟨rfl, rfl⟩ (hO.ext e4) S4 (e.t e4).size (by have := without_len l p k; simp; omega) fun v5 w5 O5 f5 => ?_
        rw [← without_next hka (by omega)] at O5
        refine rar (by omega) ⟨⟨k + 1, by omega, rfl, O5, Fr.st (e.t e4) f5 fun i hi => hi.1⟩, ?_⟩
        show _ - (k + 1) < _ - k; omega
      · obtain rfl : k = p := by omega
        rw [← without_at] at hO
        refine rar (by omega) ⟨⟨k + 1, by omega, rfl, hO, e⟩, ?_⟩
        show _ - (k + 1) < _ - k; omega
    · obtain rfl : k = l.length := by omega
      rw [without_all hpl] at hO
      exact ⟨⟨out, rfl, hO⟩, e⟩

/-- more than is looked at -/
def bigQ (wd : Wd) (q : RQ) : Prop := 20 < (wd q.words).length ∨ ∃ s ∈ wd q.words, 60 < s.size
def bigRs (wd : Wd) (l : List RReq) : Prop := 60 < l.length ∨ ∃ r ∈ l, bigQ wd r.q

theorem r18_Big_sp {wd : Wd} {q : RQ} {w : World} (hq : QOk wd w q) : Sp Try.prog F.r18_Big #[agg q] w fun v w' => Tells (bigQ wd q) v ∧ Ext w w' := by
  refine en TBok rfl ?_
  refine rbox fun b w1 n1 => ?_
  have A1 : At w1 b 0 (enc q) := At.blk n1.blk
  obtain ⟨xa, ca, hxa⟩ := hq.shape
  have S1 := hq.ext n1.ext
  unfold QOk at S1
  rw [hxa] at S1
  have hl : w1.cell? ⟨b, 0 + 3, none⟩ = some (.slice xa (wd q.words).length ca) := by rw [← hxa]; exact A1.cell 3 rfl
  refine loop1 TBok 4 [2] 3 (fun i w' => ∃ k : Nat, k ≤ (wd q.words).length ∧ i = .int .i64 k ∧ (k = 0 ∨ (wd q.words).length ≤ 20) ∧ (∀ j, (hj : j < k) → (hl : j < (wd q.words).length) → ¬ 60 < (wd q.words)[j].size) ∧ w' = w1) (fun i _ => (wd q.words).length - (Go.RowKit.intOf i).toNat) rfl ⟨0, by omega, rfl, .inl rfl, by omega, rfl⟩ ?_
  rintro i g w' ⟨k, hk, rfl, h20, hb, rfl⟩
  have fin : ((wd q.words).length ≤ 20 → k = (wd q.words).length) → IteC ((20 : Int) < (wd q.words).length) (Tells (bigQ wd q) (.bool true) ∧ Ext w w') (Tells (bigQ wd q) (.bool false) ∧ Ext w w') := by
    intro hf
    refine ite (fun h => ⟨.t (.inl (by omega)), n1.ext⟩) (fun h => ⟨.f ?_, n1.ext⟩)
    rintro (h' | ⟨s, hs, h'⟩)
    · omega
    · obtain ⟨j, hj, rfl⟩ := List.mem_iff_getElem.1 hs
      exact hb j (by rw [hf (by omega)]; exact hj) hj h'
  refine rload1 hl (ite (fun hlt => ?_) (fun hge => ?_))
  · refine rload1 hl (ite (fun h2 => ?_) (fun h2 => ?_))
    · have hka : k < (wd q.words).length := by omega
      refine rload1 hl ?_
      refine rix S1 (x := (wd q.words)[k]) (by simp) fun b2 o2 A2 => ?_
      refine rload1 (A2.cell0 rfl) (ite (fun h3 => ?_) (fun h3 => ?_))
      · exact ⟨.t (.inr ⟨_, List.getElem_mem hka, by omega⟩), n1.ext⟩
      · refine rar (by omega) ⟨⟨k + 1, by omega, rfl, .inr (by omega), fun j hj hl' => ?_, rfl⟩, ?_⟩
        · rcases Nat.lt_or_ge j k with h' | h'
          · exact hb j h' hl'
          · obtain rfl : j = k := by omega
            omega
        · show _ - (k + 1) < _ - k; omega
    · exact rload1 hl (fin (by omega))
  · exact rload1 hl (fin (by omega))

theorem r23_Big_sp {wd : Wd} {a : Option Addr} {n c : Nat} {l : List RReq} {w : World} (h : SlF w (.slice a n c) l) (hq : ∀ r ∈ l, QOk wd w r.q) : Sp Try.prog F.r23_Big #[.slice a n c] w fun v w' => Tells (bigRs wd l) v ∧ Ext w w' := by
  obtain rfl := h.len
  refine en TBok rfl ?_
  refine loop1 TBok 4 [2] 3 (fun i w' => ∃ k : Nat, k ≤ l.length ∧ i = .int .i64 k ∧ (k = 0 ∨ l.length ≤ 60) ∧ (∀ j, (hj : j < k) → (hl : j < l.length) → ¬ bigQ wd l[j].q) ∧ Ext w w') (fun i _ => l.length - (Go.RowKit.intOf i).toNat) rfl ⟨0, by omega, rfl, .inl rfl, by omega, Fr.refl _ _⟩ ?_
  rintro i g w' ⟨k, hk, rfl, h20, hb, e⟩
  have fin : (l.length ≤ 60 → k = l.length) → IteC ((60 : Int) < l.length) (Tells (bigRs wd l) (.bool true) ∧ Ext w w') (Tells (bigRs wd l) (.bool false) ∧ Ext w w') := by
    intro hf
    refine ite (fun h => ⟨.t (.inl (by omega)), e⟩) (fun h => ⟨.f ?_, e⟩)
    rintro (h' | ⟨s, hs, h'⟩)
    · omega
    · obtain ⟨j, hj, rfl⟩ := List.mem_iff_getElem.1 hs
      exact hb j (by rw [hf (by omega)]; exact hj) hj h'
  refine ite (fun hlt => ?_) (fun hge => ?_)
  · refine ite (fun h2 => ?_) (fun h2 => ?_)
    · have hka : k < l.length := by omega
      refine rix (h.ext e) (x := l[k]) (by simp) fun b2 o2 A2 => ?_
      refine rloadA (A2.sub 2 6) rfl ?_
      refine rcall (r18_Big_sp (wd := wd) (q := l[k].q) ((hq _ (by simp)).ext e)) ?_
      rintro v w2 ⟨⟨rfl, hp⟩ | ⟨rfl, hp⟩, e2⟩
      · exact ⟨.t (.inr ⟨_, List.getElem_mem hka, hp⟩), e.t e2⟩
      · refine rar (by omega) ⟨⟨k + 1, by omega, rfl, .inr (by omega), fun j hj hl' => ?_, e.t e2⟩, ?_⟩
        · rcases Nat.lt_or_ge j k with h' | h'
          · exact hb j h' hl'
          · obtain rfl : j = k := by omega
            exact hp
        · show _ - (k + 1) < _ - k; omega
    · exact fin (by omega)
  · exact fin (by omega)

theorem l23_own_sp {a : Option Addr} {n c : Nat} {l : List RReq} {w : World} (h : SlF w (.slice a n c) l) (hn : l.length ≤ 100000) : Sp Try.prog F.l23_own #[.slice a n c] w fun v w' => Own w.heap.size E.api_Request w' v l ∧ Ext w w' := by
  obtain rfl := h.len
  refine en TBok rfl ?_
  refine rapp (B := w.heap.size) ⟨rfl, rfl⟩ (Own.nil _ E.api_Request _) h (Nat.le_refl _) (by simp; omega) fun v3 w3 O3 f3 => ?_
  rw [List.nil_append] at O3
  exact ⟨O3, Fr.st (Fr.refl _ _) f3 fun i hi => hi.1⟩
end Go.W
