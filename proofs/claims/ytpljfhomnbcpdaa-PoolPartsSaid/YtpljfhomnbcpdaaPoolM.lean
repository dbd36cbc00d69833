/-
  Proved here: the laws of pools return true: PoolParts, PoolApart (the walks through the laws).
  Conditions: the rows can be read.
-/
import Derived.Test.YtpljfhomnbcpdaaPoolL
namespace Go.W
open Go Go.Proofs
open Enc (enc)
set_option maxRecDepth 10000

theorem takes_parts {sz : Int} {l : List Int} {A B : Nat} (ho : okP sz l) (hA : A ≤ l.length) :
    (takesP (sz, l.take (l.length - A)) (B : Nat)).2.2 = (takesP (sz, l) ((A : Int) + (B : Int))).2.2 ∧
    ((takesP (sz, l) ((A : Int) + (B : Int))).2.2 = 0 → (l.drop (l.length - A)).reverse ++ (takesP (sz, l.take (l.length - A)) (B : Nat)).1 = (takesP (sz, l) ((A : Int) + (B : Int))).1 ∧
      (takesP (sz, l.take (l.length - A)) (B : Nat)).2.1 = (takesP (sz, l) ((A : Int) + (B : Int))).2.1) := by
  have hl : (l.take (l.length - A)).length = l.length - A := by simp
  unfold takesP
  rw [if_pos (okP_take ho _), if_pos ho]
  rw [if_neg (show ¬ ((B : Nat) : Int) < 0 by omega), if_neg (show ¬ ((A : Int) + (B : Int)) < 0 by omega)]
  dsimp only
  rw [hl]
  by_cases h : (l.length : Int) < (A : Int) + (B : Int)
  · rw [if_pos h, if_pos (by omega)]
    exact ⟨rfl, fun h => absurd h (by decide)⟩
  · rw [if_neg h, if_neg (by omega)]
    refine ⟨rfl, fun _ => ⟨?_, ?_⟩⟩
    · have e : ((A : Int) + (B : Int)).toNat = A + B := by omega
      have e2 : l.length - A - B = l.length - (A + B) := by omega
      rw [e, Int.toNat_natCast, e2, ← List.reverse_append]
      congr 1
      have h1 := List.take_append_drop (l.length - A) (l.drop 0)
      have h2 : l.drop (l.length - (A + B)) = ((l.take (l.length - A)) ++ l.drop (l.length - A)).drop (l.length - (A + B)) := by rw [List.take_append_drop]
      rw [h2, List.drop_append_of_le_length (by rw [hl]; omega)]
    · have e : ((A : Int) + (B : Int)).toNat = A + B := by omega
      rw [e, Int.toNat_natCast, List.take_take, show min (l.length - A - B) (l.length - A) = l.length - (A + B) by omega]
theorem takesP_ok {sz m : Int} {l : List Int} (h : (takesP (sz, l) m).2.2 = 0) : okP sz l ∧ ∃ M : Nat, m = M ∧ M ≤ l.length ∧ takesP (sz, l) m = ((l.drop (l.length - M)).reverse, (sz, l.take (l.length - M)), 0) := by
  have hh := h
  unfold takesP at h
  split at h
  · rename_i ho
    split at h
    · exact absurd h (by decide)
    · rename_i h1
      split at h
      · exact absurd h (by decide)
      · rename_i h2
        refine ⟨ho, m.toNat, by omega, by dsimp only at h2; omega, ?_⟩
        unfold takesP; rw [if_pos ho, if_neg h1, if_neg h2]
  · exact absurd h (by decide)
theorem takesP_err {sz m : Int} {l : List Int} (h : (takesP (sz, l) m).2.2 ≠ 0) : (takesP (sz, l) m).1 = [] ∧ (takesP (sz, l) m).2.1 = zP := by
  unfold takesP at h ⊢
  split
  · rename_i ho
    rw [if_pos ho] at h
    split
    · exact ⟨rfl, rfl⟩
    · rename_i h1
      rw [if_neg h1] at h
      split
      · exact ⟨rfl, rfl⟩
      · rename_i h2; rw [if_neg h2] at h; exact absurd rfl h
  · exact ⟨rfl, rfl⟩

set_option maxHeartbeats 800000 in
theorem l13_PoolParts_sp {sz x y : Int} {a : Option Addr} {n c : Nat} {l : List Int} {w : World} (h : SlF w (.slice a n c) l) :
    Sp Try.prog F.l13_PoolParts #[plV sz a n c, .int .i64 x, .int .i64 y] w fun v w' => v = .bool true ∧ Stp w w' := by
  have q_ := h.len
  obtain rfl := q_
  refine en TBok rfl ?_
  refine rbx fun b0 w0 n0 B0 => ?_
  refine rldG rfl rfl ?_
  refine rcall (r13_Big_sp) ?_
  rintro v w1 ⟨⟨rfl, hb⟩ | ⟨rfl, hb⟩, e1⟩
  · refine rcall (l13_pools_sp) ?_
    rintro v w2 ⟨rfl, e2⟩
    exact ⟨rfl, stp⟩
  have hn := big13 hb
  refine ite (fun h1 => ?_) (fun h1 => ?_)
  · refine rcall (l13_pools_sp) ?_
    rintro v w2 ⟨rfl, e2⟩
    exact ⟨rfl, stp⟩
  refine ite (fun h2 => ?_) (fun h2 => ?_)
  · refine rcall (l13_pools_sp) ?_
    rintro v w2 ⟨rfl, e2⟩
    exact ⟨rfl, stp⟩
  refine ite (fun h3 => ?_) (fun h3 => ?_)
  · refine rcall (l13_pools_sp) ?_
    rintro v w2 ⟨rfl, e2⟩
    exact ⟨rfl, stp⟩
  refine ite (fun h4 => ?_) (fun h4 => ?_)
  · refine rcall (l13_pools_sp) ?_
    rintro v w2 ⟨rfl, e2⟩
    exact ⟨rfl, stp⟩
  have l3 := takesP_len (sz := sz) (m := x) (l := l)
  refine rldG rfl rfl ?_
  refine rcall (pool_Takes_sp (sz := sz) (m := x) (h.up (w' := w1)) (by omega) (by omega)) ?_
  rintro v w2 ⟨⟨lv, pv, rfl, P2, ⟨a2, c2, rfl, O2⟩⟩, e2⟩
  have q_ := P2.shape
  obtain ⟨pa2, pc2, rfl⟩ := q_
  refine ral fun b3 w3a n3 z3 => ?_
  refine rsto (B := z3) (vs := [.int .i64 (takesP (sz, l) x).2.1.1, .slice a2 (takesP (sz, l) x).2.1.2.length c2]) rfl rfl rfl (pl_one _ _ _ _) fun w3 B3 f3 _ => ?_
  have s3 : Stp w2 w3 := ⟨Fr.st Le.e f3 fun i hi => by subst hi; exact n3.lo⟩
  clear z3
  refine ite (fun h5 => ?_) (fun h5 => ?_)
  · have he := takesP_err h5; obtain ⟨he, -⟩ := he
    refine rcall (l13_pools_sp) ?_
    rintro v w4 ⟨rfl, e4⟩
    refine ite (fun _ => ⟨rfl, stp⟩) (fun h => absurd (by rw [he]; rfl) h)
  have h5 := Classical.not_not.1 h5
  have hok := takesP_ok h5
  obtain ⟨ho, A, rfl, hA, hT⟩ := hok
  have q_ := Int.eq_ofNat_of_zero_le (show (0 : Int) ≤ y by omega)
  obtain ⟨B, rfl⟩ := q_
  rw [hT] at O2 P2 B3
  rw [hT]
  dsimp only at O2 P2 B3
  have hl2 : (l.take (l.length - A)).length ≤ 500 := by rw [List.length_take]; omega
  have l4 := takesP_len (sz := sz) (m := (B : Int)) (l := l.take (l.length - A))
  have l5 := takesP_len (sz := sz) (m := (A : Int) + (B : Int)) (l := l)
  have hpt := takes_parts (B := B) ho hA
  obtain ⟨hp1, hp2⟩ := hpt
  refine rldG (B := B3) rfl rfl ?_
  refine rcall (pool_Takes_sp (sz := sz) (m := (B : Int)) (O2.sl.up (w' := w3)) (by omega) (by omega)) ?_
  rintro v w4 ⟨⟨lv, pv, rfl, P4, ⟨a4, c4, rfl, O4⟩⟩, e4⟩
  have q_ := P4.shape
  obtain ⟨pa4, pc4, rfl⟩ := q_
  refine ral fun b5 w5a n5 z5 => ?_
  refine rsto (B := z5) (vs := [.int .i64 (takesP (sz, l.take (l.length - A)) (B : Int)).2.1.1, .slice a4 (takesP (sz, l.take (l.length - A)) (B : Int)).2.1.2.length c4]) rfl rfl rfl (pl_one _ _ _ _) fun w5 B5 f5 _ => ?_
  have s5 : Stp w4 w5 := ⟨Fr.st Le.e f5 fun i hi => by subst hi; exact n5.lo⟩
  clear z5
  refine rldG (B := B0) rfl rfl ?_
  refine rar (by omega) ?_
  refine rcall (pool_Takes_sp (sz := sz) (m := (A : Int) + (B : Int)) (h.up (w' := w5)) (by omega) (by omega)) ?_
  rintro v w6 ⟨⟨lv, pv, rfl, P6, ⟨a6, c6, rfl, O6⟩⟩, e6⟩
  have q_ := P6.shape
  obtain ⟨pa6, pc6, rfl⟩ := q_
  refine ral fun b7 w7a n7 z7 => ?_
  refine rsto (B := z7) (vs := [.int .i64 (takesP (sz, l) ((A : Int) + (B : Int))).2.1.1, .slice a6 (takesP (sz, l) ((A : Int) + (B : Int))).2.1.2.length c6]) rfl rfl rfl (pl_one _ _ _ _) fun w7 B7 f7 _ => ?_
  have s7 : Stp w6 w7 := ⟨Fr.st Le.e f7 fun i hi => by subst hi; exact n7.lo⟩
  clear z7
  have hl3 : (l.drop (l.length - A)).reverse.length ≤ 500 := by rw [List.length_reverse, List.length_drop]; omega
  refine rapp (u := w7) ⟨rfl, rfl⟩ (Own.nil _ E.int _) (P2.sl.up (w' := w7)) (by simp; omega) fun v8 w8 O8 f8 s8 => ?_
  rw [List.nil_append] at O8
  refine rapp (u := w7) ⟨rfl, rfl⟩ O8 (P4.sl.up (w' := w8)) (by omega) fun v9 w9 O9 f9 s9 => ?_
  have q_ := O9.shape
  obtain ⟨a9, c9, rfl⟩ := q_
  refine rcall (l13_pools_sp) ?_
  rintro v w10 ⟨rfl, e10⟩
  refine ite (fun _ => ?_) (fun h => absurd hp1 h)
  refine ite (fun h6 => ?_) (fun h6 => ?_)
  · exact ⟨rfl, stp⟩
  · have h6 := Classical.not_not.1 h6
    have hp2 := hp2 (hp1 ▸ h6)
    obtain ⟨hp3, hp4⟩ := hp2
    refine rcall ((r01_Ints_sp (O9.sl.up (w' := w10)) (P6.sl.up (w' := w10)) (by rw [List.length_append]; omega)).tt hp3) ?_
    rintro v w11 ⟨rfl, e11⟩
    refine rldG (B := B5) rfl rfl (rldG (B := B7) rfl rfl ?_)
    refine rcall ((r13_Same_sp (O4.sl.up (w' := w11)) (O6.sl.up (w' := w11)) (by omega)).tt ⟨by rw [hp4], by rw [hp4]⟩) ?_
    rintro v w12 ⟨rfl, e12⟩
    exact ⟨rfl, stp⟩

theorem nodup_apart {l : List Int} (h : l.Nodup) {k i : Nat} (hi : k + i < l.length) : l[k + i] ∉ l.take k := by
  intro hm
  have q_ := List.mem_iff_getElem.1 hm
  obtain ⟨j, hj, e⟩ := q_
  rw [List.length_take] at hj
  rw [List.getElem_take] at e
  have := (List.getElem_inj h).1 e
  omega
theorem rev_get {l : List Int} {M i : Nat} (hM : M ≤ l.length) (hi : i < M) : (l.drop (l.length - M)).reverse[i]? = some (l[l.length - 1 - i]'(by omega)) := by
  have hld : (l.drop (l.length - M)).length = M := by rw [List.length_drop]; omega
  rw [List.getElem?_reverse (by omega), hld, List.getElem?_drop]
  rw [show l.length - M + (M - 1 - i) = l.length - 1 - i by omega, List.getElem?_eq_getElem]
theorem rev_take_mem {l : List Int} (h : l.Nodup) {M i : Nat} (hM : M ≤ l.length) (hi : i < M) : l[l.length - 1 - i]'(by omega) ∉ ((l.drop (l.length - M)).reverse.take i) := by
  intro hm
  have q_ := List.mem_iff_getElem.1 hm
  obtain ⟨j, hj, e⟩ := q_
  rw [List.length_take] at hj
  have h1 := rev_get (l := l) hM (show j < M by omega)
  rw [List.getElem_take] at e
  have h2 := (List.getElem?_eq_some_iff.1 h1).2
  rw [h2] at e
  have := (List.getElem_inj h).1 e
  omega
theorem give_at {sz : Int} {l : List Int} (ho : okP sz l) {k : Nat} (hk : k < l.length) : giveP (sz, l.take k) l[k] = ((sz, l.take (k + 1)), 0) := by
  have h1 := ho.2.2.1 _ (List.getElem_mem hk)
  have h2 : l[k] ∉ l.take k := nodup_apart (k := k) (i := 0) ho.2.2.2 hk
  unfold giveP
  dsimp only
  rw [if_pos (okP_take ho _), if_neg (by omega), if_neg h2, take_add hk]

set_option maxHeartbeats 800000 in
theorem l13_PoolApart_sp {sz m : Int} {a : Option Addr} {n c : Nat} {l : List Int} {w : World} (h : SlF w (.slice a n c) l) (hm : -9223372036854775808 ≤ m ∧ m ≤ 9223372036854775807) :
    Sp Try.prog F.l13_PoolApart #[plV sz a n c, .int .i64 m] w fun v w' => v = .bool true ∧ Stp w w' := by
  have q_ := h.len
  obtain rfl := q_
  refine en TBok rfl ?_
  refine rbx fun b0 w0 n0 B0 => ?_
  refine rldG rfl rfl ?_
  refine rcall (r13_Big_sp) ?_
  rintro v w1 ⟨⟨rfl, hb⟩ | ⟨rfl, hb⟩, e1⟩
  · exact ⟨rfl, stp⟩
  have hn := big13 hb
  refine rldG rfl rfl ?_
  have T := pool_Takes_sp (sz := sz) (m := m) (h.up (w' := w1)) (by omega) hm
  by_cases h5 : (takesP (sz, l) m).2.2 = 0
  · have hok := takesP_ok h5
    obtain ⟨ho, M, rfl, hM, hT⟩ := hok
    rw [hT] at T
    have hlM : (l.drop (l.length - M)).reverse.length = M := by rw [List.length_reverse, List.length_drop]; omega
    have hlt : (l.take (l.length - M)).length = l.length - M := by rw [List.length_take]; omega
    refine rcall (T) ?_
    rintro v w2 ⟨⟨lv, pv, rfl, P2, ⟨a2, c2, rfl, O2⟩⟩, e2⟩
    dsimp only at O2 P2
    rw [hlt] at O2
    have q2 := P2.shape
    rw [hlM] at q2
    obtain ⟨pa2, pc2, rfl⟩ := q2
    refine ral fun b3 w3a n3 z3 => ?_
    refine rsto (B := z3) (vs := [.int .i64 sz, .slice a2 (l.length - M) c2]) (by show [_, _] = _; rw [hlt]) rfl rfl (pl_one _ _ _ _) fun w3 B3 f3 _ => ?_
    have s3 : Stp w2 w3 := ⟨Fr.st Le.e f3 fun i hi => by subst hi; exact n3.lo⟩
    clear z3
    refine ite (fun h => absurd rfl h) (fun _ => ?_)
    refine cnt TBok 13 [4] 8 M (fun k u => Stp w3 u) rfl rfl stp ?_
    rintro i g u hi e
    refine ite (fun hlt1 => ?_) (fun hge => ?_)
    · have hia : i < M := by omega
      have hget := rev_get hM hia
      refine drawR TBok mixed (fun _ => False) (upF 17 0) (by kernel_rfl) fun u1 e1' _ => ?_
      refine tld (B := B3) rfl not_false ?_
      refine tix (P2.sl.up (w' := u1)) hget fun b4 o4 A4 _ => tload1 (A4.cell0 rfl) not_false ?_
      refine rcall ((r05_In_sp (x := l[l.length - 1 - i]'(by omega)) (O2.sl.up (w' := u1)) (by omega)).ff (by
        have := nodup_apart (k := l.length - M) (i := M - 1 - i) ho.2.2.2 (by omega)
        simpa only [show l.length - M + (M - 1 - i) = l.length - 1 - i by omega] using this)) ?_
      rintro v u2 ⟨rfl, e2'⟩
      refine ⟨e2'.e, ?_⟩
      refine tslB none (some i) (P2.sl) (by simp) (by simpa using hi) fun a5 c5 S5 => ?_
      have S5' : SlF w2 (.slice a5 i c5) ((l.drop (l.length - M)).reverse.take i) := by simpa using S5
      refine tix (P2.sl.up (w' := u2)) hget fun b4 o4 A4 _ => tload1 (A4.cell0 rfl) not_false ?_
      refine rcall ((r05_In_sp (x := l[l.length - 1 - i]'(by omega)) (S5'.up (w' := u2)) (by rw [List.length_take]; omega)).ff (rev_take_mem ho.2.2.2 hM hia)) ?_
      rintro v u3 ⟨rfl, e3'⟩
      refine ⟨e3'.e, ?_⟩
      exact rar (by omega) ⟨rfl, hia, stp⟩
    have q_ : i = M := by omega
    obtain rfl := q_
    refine rld (B := B3) rfl ?_
    refine rar (by omega) ?_
    refine loop1 TBok 13 [4, 11, 12] 10 (fun v u => ∃ k : Nat, k ≤ i ∧ ∃ j : Int, v = .int .i64 j ∧ j = (i : Int) - 1 - k ∧ ∃ qa qc, Bk u b3 [.int .i64 sz, .slice qa (l.length - i + k) qc] E.api_Pool ∧ Own w.heap.size E.int u (.slice qa (l.length - i + k) qc) (l.take (l.length - i + k)) ∧ Stp w2 u) (fun v _ => ((Go.RowKit.intOf v) + 1).toNat) rfl
      ⟨0, by omega, _, rfl, by omega, a2, c2, B3.mv, O2.up.older, stp⟩ ?_
    rintro v g u1 ⟨k, hk, j, rfl, hj, qa, qc, Bq, Oq, e'⟩
    have hl3 : (l.take (l.length - i + k)).length = l.length - i + k := by rw [List.length_take]; omega
    refine ite (fun hge1 => ?_) (fun hlt1 => ?_)
    · have q_ := Int.eq_ofNat_of_zero_le hge1
      obtain ⟨jn, rfl⟩ := q_
      have hka : k < i := by omega
      have hget := rev_get hM (show jn < i by omega)
      have ejn : l.length - 1 - jn = l.length - i + k := by omega
      simp only [ejn] at hget
      have hg := give_at ho (show l.length - i + k < l.length by omega)
      have hl4 : (l.take (l.length - i + k + 1)).length = l.length - i + (k + 1) := by rw [List.length_take]; omega
      have T2 : ∀ u, Stp u1 u → Sp Try.prog F.pool_Give #[plV sz qa (l.length - i + k) qc, .int .i64 (l[l.length - i + k]'(by omega))] u fun v w' => (∃ pv, v = .tuple #[pv, .int .i64 0] ∧ ∃ a c, pv = plV sz a (l.length - i + (k + 1)) c ∧ Own u.heap.size E.int w' (.slice a (l.length - i + (k + 1)) c) (l.take (l.length - i + (k + 1)))) ∧ Stp u w' := by
        intro u s
        refine (pool_Give_sp (sz := sz) (m := l[l.length - i + k]'(by omega)) (Oq.sl.up (w' := u)) (by omega)).mono ?_
        rintro v w' ⟨⟨pv, rfl, a, c, rfl, O⟩, e⟩
        rw [hg] at O ⊢
        dsimp only at O ⊢
        rw [hl4] at O ⊢
        exact ⟨⟨_, rfl, a, c, rfl, by rw [← Nat.add_assoc]; exact O⟩, e⟩
      refine drawRT TBok mixed (fun i => u1.heap.size ≤ i) (.one 0 (.one 1 (.one 2 (.one 3 (.one 4 (.two 5 (.one 6 (.one 7 (.one 8 (.one 9 (.one 10 (.one 11 .nil)))))) 9 (.one 5 (.one 6 (.one 7 (.one 8 (.one 10 (.one 11 .nil)))))))))))) (by kernel_rfl) fun u2 e2' _ => ?_
      have zq := Bq.lt
      refine tldG (B := Bq) rfl rfl (by omega) ?_
      refine tix (P2.sl.up (w' := u2)) hget fun b4 o4 A4 hb4 => tload1 (A4.cell0 rfl) (by have := P2.lt (fun e => by rw [e] at hget; cases hget); obtain ⟨gg, hg1, _, hg2⟩ := this; rw [hg1] at hb4; cases hb4; have := Le.size (a := w2) (b := u1); omega) ?_
      refine ⟨?_, ?_⟩
      · refine rcall (T2 u2 stp) ?_
        rintro v u3 ⟨⟨pv, rfl, a8, c8, rfl, O8⟩, e3'⟩
        refine ⟨e3'.e.fr, ?_⟩
        refine ral fun b5 u4 n5 z5 => ⟨n5.e.fr, ?_⟩
        refine rsto (B := z5) (vs := [.int .i64 sz, .slice a8 (l.length - i + (k + 1)) c8]) rfl rfl rfl (pl_one _ _ _ _) fun u5 B5 f5 _ => ?_
        have s5 : Stp u1 u5 := ⟨Fr.st Le.e f5 fun i hi => by subst hi; exact n5.lo⟩
        refine ⟨f5.mono fun i _ hi => by subst hi; exact n5.lo, ?_⟩
        have O8' := (O8.up (w' := u4)).frc f5 z5 (by decide)
        clear z5
        refine ite (fun h => absurd rfl h) (fun _ => ?_)
        refine rldG (B := B5) rfl rfl ?_
        have Bq5 := Bq.mv (w := u5)
        refine rsto (B := Bq5) (vs := [.int .i64 sz, .slice a8 (l.length - i + (k + 1)) c8]) rfl rfl rfl (pl_one _ _ _ _) fun u6 B6 f6 _ => ?_
        have s6 : Stp w2 u6 := ⟨Fr.st Le.e f6 fun i hi => by subst hi; exact n3.lo⟩
        refine rar (by omega) ⟨⟨k + 1, by omega, _, rfl, by omega, a8, c8, B6, (O8'.frc f6 Bq5 (by decide)).older, s6⟩, ?_⟩
        show (((jn : Int) - 1) + 1).toNat < ((jn : Int) + 1).toNat
        omega
      · refine ral fun b5 u4 n5 z5 => ⟨n5.e.fr, ?_⟩
        refine rcall (T2 u4 stp) ?_
        rintro v u3 ⟨⟨pv, rfl, a8, c8, rfl, O8⟩, e3'⟩
        refine ⟨e3'.e.fr, ?_⟩
        have z5' := z5.mv (w := u3)
        refine rsto (B := z5') (vs := [.int .i64 sz, .slice a8 (l.length - i + (k + 1)) c8]) rfl rfl rfl (pl_one _ _ _ _) fun u5 B5 f5 _ => ?_
        have s5 : Stp u1 u5 := ⟨Fr.st Le.e f5 fun i hi => by subst hi; exact n5.lo⟩
        refine ⟨f5.mono fun i _ hi => by subst hi; exact n5.lo, ?_⟩
        have O8' := O8.frc f5 z5' (by decide)
        clear z5 z5'
        refine ite (fun h => absurd rfl h) (fun _ => ?_)
        refine rldG (B := B5) rfl rfl ?_
        have Bq5 := Bq.mv (w := u5)
        refine rsto (B := Bq5) (vs := [.int .i64 sz, .slice a8 (l.length - i + (k + 1)) c8]) rfl rfl rfl (pl_one _ _ _ _) fun u6 B6 f6 _ => ?_
        have s6 : Stp w2 u6 := ⟨Fr.st Le.e f6 fun i hi => by subst hi; exact n3.lo⟩
        refine rar (by omega) ⟨⟨k + 1, by omega, _, rfl, by omega, a8, c8, B6, (O8'.frc f6 Bq5 (by decide)).older, s6⟩, ?_⟩
        show (((jn : Int) - 1) + 1).toNat < ((jn : Int) + 1).toNat
        omega
    · have q_ : k = i := by omega
      obtain rfl := q_
      have hfull : l.take (l.length - k + k) = l := List.take_of_length_le (by omega)
      refine rcall (l13_pools_sp) ?_
      rintro v u2 ⟨rfl, e2'⟩
      refine ite (fun _ => ?_) (fun h => absurd rfl h)
      refine rar (by omega) ?_
      refine rld (B := B0) rfl ?_
      refine ite (fun _ => ?_) (fun h => absurd (by omega) h)
      refine rldG (B := Bq) rfl rfl (rldG (B := B0) rfl rfl ?_)
      refine rcall ((r13_Same_sp (sa := sz) (sb := sz) (Oq.sl.up (w' := u2)) (h.up (w' := u2)) (by omega)).tt ⟨rfl, hfull⟩) ?_
      rintro v u3 ⟨rfl, e3'⟩
      exact ⟨rfl, stp⟩
  · have he := takesP_err h5; obtain ⟨he, he2⟩ := he
    rw [he, he2] at T
    refine rcall (T) ?_
    rintro v w2 ⟨⟨lv, pv, rfl, P2, ⟨a2, c2, rfl, O2⟩⟩, e2⟩
    have q_ := P2.shape
    obtain ⟨pa2, pc2, rfl⟩ := q_
    refine ral fun b3 w3a n3 z3 => ?_
    refine rsto (B := z3) (vs := [.int .i64 0, .slice a2 0 c2]) rfl rfl rfl (pl_one _ _ _ _) fun w3 B3 f3 _ => ?_
    have s3 : Stp w2 w3 := ⟨Fr.st Le.e f3 fun i hi => by subst hi; exact n3.lo⟩
    clear z3
    refine ite (fun _ => ?_) (fun h => absurd h5 h)
    refine rcall (l13_pools_sp) ?_
    rintro v w4 ⟨rfl, e4⟩
    refine ite (fun _ => ?_) (fun h => absurd rfl h)
    refine rld (B := B3) rfl ?_
    refine ite (fun _ => ?_) (fun h => absurd rfl h)
    exact ⟨rfl, stp⟩
end Go.W
