/-
  Proved here: pools of the program: right or not, made, taken from, given back (contracts).
  Conditions: the row of a pool can be read, and is no longer than is said at each.
-/
import Derived.Test.YtpljfhomnbcpdaaPoolT
namespace Go.W
open Go Go.Proofs
open Enc (enc)
set_option maxRecDepth 10000

section
variable {P : Program} {k : Value → World → Prop} {pn : List PanicEntry → World → Prop} {w : World}
/-- arithmetic that may wrap: the result is the number itself, where it can be -/
theorem rarU {x : Int} (hk : ∀ y, ((-9223372036854775808 ≤ x ∧ x ≤ 9223372036854775807) → y = x) → k (.int .i64 y) w) : ArS .i64 x k w := by
  rw [ArS_iff]; exact hk _ fun h => wrap_id h.1 h.2
theorem rixAI {t e : TypeId} {N : Nat} {z : Value} {sz by' : Nat} [ht : ArrT P t N e] [he : Elem P e z sz by'] {b o : Nat} {i : Int} (h0 : 0 ≤ i) (h1 : i < N) (hk : k (.pointer (some ⟨b, o + i.toNat * sz, none⟩)) w) :
    SemV P (Instr.indexAt t (.pointer (some ⟨b, o, none⟩)) (.int .i64 i)) k pn w := SemV.of (run_idxA ht he h0 h1 w) hk
end

theorem Clone_int_sp {a : Option Addr} {n c : Nat} {l : List Int} {w : World} (h : SlF w (.slice a n c) l) (hn : l.length ≤ 1000000) :
    Sp Try.prog F.slices_Clone_int #[.slice a n c] w fun v w' => Own w.heap.size E.int w' v l ∧ Stp w w' := by
  have q_ := h.len
  obtain rfl := q_
  refine en TBok rfl ?_
  refine rsnil (fun h0 => ?_) (fun h0 => ?_)
  · obtain ⟨a', c', hv, hc, hh⟩ := h
    cases hv
    have : l = [] := by rcases hh with h | ⟨b, o, h, _⟩; exact h; rw [h0] at h; cases h
    subst this
    exact ⟨Own.nil _ _ _, stp⟩
  · refine rbs (n := 0) (vs := []) ([] : List Int) rfl rfl rfl (by omega) fun b w1 n1 S1 => ?_
    refine rapp (u := w) ⟨rfl, rfl⟩ (Own.nil' w.heap.size E.int w1 _) h.up (by simp; omega) fun v3 w3 O3 f3 s3 => ?_
    rw [List.nil_append] at O3
    exact ⟨O3, stp⟩
theorem Index_int_sp {a : Option Addr} {n c : Nat} {l : List Int} {x : Int} {w : World} (h : SlF w (.slice a n c) l) (hn : l.length ≤ 1000000) :
    Sp Try.prog F.slices_Index_int #[.slice a n c, .int .i64 x] w fun v w' => (∃ i : Int, v = .int .i64 i ∧ (0 ≤ i ↔ x ∈ l)) ∧ Stp w w' := by
  have q_ := h.len
  obtain rfl := q_
  refine en TBok rfl ?_
  refine cnt TBok 8 [4, 5] 8 l.length (fun k w' => (∀ j, j < k → ¬ l[j]? = some x) ∧ Stp w w') rfl rfl ⟨by omega, stp⟩ ?_
  rintro k g w' hk ⟨hb, e⟩
  refine ite (fun hlt => ?_) (fun hge => ?_)
  · have hka : k < l.length := by omega
    refine rix h.up (x := l[k]) (by simp) fun b2 o2 A2 => ?_
    refine rload1 (A2.cell0 rfl) ?_
    refine ite (fun he => ?_) (fun hne => ?_)
    · exact ⟨⟨_, rfl, ⟨fun _ => by rw [he]; exact List.getElem_mem hka, fun _ => by omega⟩⟩, stp⟩
    · exact rar (by omega) ⟨rfl, hka, below hb (by simpa [hka] using Ne.symm hne), stp⟩
  · have q_ : k = l.length := by omega
    obtain rfl := q_
    refine ⟨⟨_, rfl, ⟨fun h => absurd h (by decide), fun hm => ?_⟩⟩, stp⟩
    have q_ := List.mem_iff_getElem.1 hm
    obtain ⟨j, hj, rfl⟩ := q_
    exact absurd (by simp) (hb j hj)
theorem Contains_int_sp {a : Option Addr} {n c : Nat} {l : List Int} {x : Int} {w : World} (h : SlF w (.slice a n c) l) (hn : l.length ≤ 1000000) :
    Sp Try.prog F.slices_Contains_int #[.slice a n c, .int .i64 x] w fun v w' => Tells (x ∈ l) v ∧ Stp w w' := by
  refine en TBok rfl ?_
  refine rcall (Index_int_sp h hn) ?_
  rintro v w1 ⟨⟨i, rfl, hi⟩, e1⟩
  exact ite (fun h => ⟨.t (hi.1 h), stp⟩) (fun h => ⟨.f fun hm => h (hi.2 hm), stp⟩)

/-! the numbers that are there, marked in an array -/
def markC (s : List Int) : List Value := (List.range 400).map fun i : Nat => Value.bool (decide ((i : Int) ∈ s))
theorem markC_len (s : List Int) : (markC s).length = 400 := by simp [markC]
theorem markC_get (s : List Int) {i : Int} (h0 : 0 ≤ i) (h1 : i < 400) : (markC s)[i.toNat]? = some (.bool (decide (i ∈ s))) := by
  unfold markC
  rw [List.getElem?_map, List.getElem?_range (by omega)]
  simp [Int.toNat_of_nonneg h0]
theorem markC_set (s : List Int) {i : Int} (h0 : 0 ≤ i) (h1 : i < 400) : splice (markC s) i.toNat [.bool true] = markC (s ++ [i]) := by
  rw [splice1 _ _ _ (by rw [markC_len]; omega)]
  refine List.ext_getElem? fun j => ?_
  rw [List.getElem?_set]
  unfold markC
  simp only [List.getElem?_map, List.length_map, List.length_range]
  by_cases hj : j < 400
  · rw [List.getElem?_range hj]
    by_cases e : i.toNat = j
    · have : (j : Int) = i := by omega
      simp [e, hj, this]
    · have : (j : Int) ≠ i := by omega
      simp [e, this]
  · have : ¬ i.toNat = j := by omega
    rw [if_neg this, List.getElem?_eq_none (by simpa using hj)]; rfl
theorem markC_nil : (Value.agg (Array.replicate 400 (Value.bool false))).cells.toList = markC [] := by kernel_rfl

theorem pool_Check_sp {sz : Int} {a : Option Addr} {n c : Nat} {l : List Int} {w : World} (h : SlF w (.slice a n c) l) (hn : l.length ≤ 1000000) :
    Sp Try.prog F.pool_Check #[plV sz a n c] w fun v w' => Tells (okP sz l) v ∧ Stp w w' := by
  have q_ := h.len
  obtain rfl := q_
  refine en TBok rfl ?_
  refine rbx fun b1 w1 n1 B1 => ral fun b2 w2 n2 B2 => ?_
  rw [markC_nil] at B2
  refine rld rfl ?_
  refine cnt TBok 9 [2, 5] 9 l.length (fun k u => (∀ j, j < k → (hl : j < l.length) → 0 ≤ l[j] ∧ l[j] < sz) ∧ (l.take k).Nodup ∧ Bk u b2 (markC (l.take k)) E.A400_bool ∧ Stp w1 u) rfl rfl ⟨by omega, by simp, by rw [List.take_zero]; exact B2, stp⟩ ?_
  rintro k g u hk ⟨hb, hnd, Bm, e⟩
  clear B2
  refine ite (fun hlt => ?_) (fun hge => ?_)
  · have hka : k < l.length := by omega
    refine rix (h.up (w' := u)) (x := l[k]) (by simp) fun b4 o4 A4 => rload1 (A4.cell0 rfl) ?_
    refine ite (fun h3 => ⟨.f fun o => by have := o.2.2.1 _ (List.getElem_mem hka); omega, stp⟩) (fun h3 => ?_)
    refine rld rfl ?_
    refine ite (fun h4 => ⟨.f fun o => by have := o.2.2.1 _ (List.getElem_mem hka); omega, stp⟩) (fun h4 => ?_)
    refine ite (fun h5 => ⟨.f fun o => by have := o.2.2.1 _ (List.getElem_mem hka); have := o.2.1; omega, stp⟩) (fun h5 => ?_)
    refine rixAI (by omega) (by omega) ?_
    refine rldK (B := Bm) (v := .bool (decide (l[k] ∈ l.take k))) (by rw [Nat.zero_add, Nat.mul_one]; exact markC_get _ (by omega) (by omega)) ?_
    by_cases hm : l[k] ∈ l.take k
    · rw [decide_eq_true hm]
      refine ⟨.f fun o => ?_, stp⟩
      have hnd2 : (l.take (k + 1)).Nodup := o.2.2.2.sublist (List.take_sublist _ _)
      rw [take_add hka, List.nodup_append] at hnd2
      exact hnd2.2.2 _ hm l[k] (by simp) rfl
    · rw [decide_eq_false hm]
      refine rixAI (by omega) (by omega) ?_
      refine rstK (B := Bm) (vs := [.bool true]) rfl rfl (by rw [markC_len]; simp only [List.length_singleton]; omega) (by simp; rfl) fun w6 B6 f6 _ => ?_
      have s6 : Stp w1 w6 := ⟨Fr.st Le.e f6 fun i hi => by subst hi; exact n2.lo⟩
      rw [Nat.zero_add, Nat.mul_one, markC_set _ (by omega) (by omega), ← take_add hka] at B6
      refine rar (by omega) ⟨rfl, hka, below2 hb fun _ => ⟨by omega, by omega⟩, ?_, B6, s6⟩
      rw [take_add hka, List.nodup_append]
      exact ⟨hnd, by simp, fun a ha b hb => by simp only [List.mem_singleton] at hb; subst hb; exact fun e => hm (e ▸ ha)⟩
  · have q_ : k = l.length := by omega
    obtain rfl := q_
    rw [List.take_length] at hnd
    have hall : ∀ x ∈ l, 0 ≤ x ∧ x < sz := fun x hx => by
      have q_ := List.mem_iff_getElem.1 hx
      obtain ⟨j, hj, rfl⟩ := q_
      exact hb j hj hj
    refine rld (B := B1) rfl ?_
    refine ite (fun h6 => ?_) (fun h6 => ⟨.f fun o => h6 o.1, stp⟩)
    refine rld (B := B1) rfl ?_
    exact ite (fun h7 => ⟨.t ⟨h6, h7, hall, hnd⟩, stp⟩) (fun h7 => ⟨.f fun o => h7 o.2.1, stp⟩)
end Go.W
