/-
  Proved here: PoolRuns returns true (the walk through the law).
  Conditions: the rows can be read.
-/
import Derived.Test.YtpljfhomnbcpdaaPoolM
namespace Go.W
open Go Go.Proofs
open Enc (enc)
set_option maxRecDepth 10000

/-- a step of a script of pools -/
structure PStep where
  kind : Int
  at' : Int
instance : Enc PStep := ⟨2, fun x => [.int .i64 x.kind, .int .i64 x.at'], fun _ => rfl, by intro x u hu; simp at hu; rcases hu with rfl | rfl <;> rfl, by decide⟩

/-- those that are out and those that are free are all -/
def All (N : Nat) (O F : List Int) : Prop := (O ++ F).Nodup ∧ (∀ x ∈ O ++ F, 0 ≤ x ∧ x < N) ∧ (O ++ F).length = N
theorem All.perm {N : Nat} {O F O' F' : List Int} (h : All N O F) (p : (O ++ F).Perm (O' ++ F')) : All N O' F' :=
  ⟨p.nodup_iff.1 h.1, fun x hx => h.2.1 x (p.mem_iff.2 hx), by rw [← p.length_eq]; exact h.2.2⟩
theorem All.ok {N : Nat} {O F : List Int} (h : All N O F) (h1 : 1 ≤ N) (h2 : N ≤ 400) : okP (N : Int) F :=
  ⟨by omega, by omega, fun x hx => h.2.1 x (List.mem_append_right _ hx), (List.nodup_append.1 h.1).2.1⟩
theorem downTo_nodup (n : Nat) : (downTo n).Nodup := by
  unfold downTo
  exact List.pairwise_map.2 ((List.pairwise_reverse.2 (List.nodup_range.imp fun h => Ne.symm h)).imp fun h e => h (by omega))
theorem downTo_all (n : Nat) : All n [] (downTo n) :=
  ⟨downTo_nodup n, fun x hx => by
    unfold downTo at hx
    simp only [List.nil_append, List.mem_map, List.mem_reverse, List.mem_range] at hx
    obtain ⟨k, hk, rfl⟩ := hx
    omega, by rw [List.nil_append, downTo_len]⟩
theorem All.take {N : Nat} {O F : List Int} {x : Int} (h : All N O F) (hx : F.getLast? = some x) : All N (O ++ [x]) F.dropLast ∧ x ∉ O := by
  have e : F = F.dropLast ++ [x] := by
    have hne : F ≠ [] := by rintro rfl; cases hx
    rw [List.getLast?_eq_some_getLast hne] at hx
    injection hx with hx
    rw [← hx]; exact (List.dropLast_concat_getLast hne).symm
  refine ⟨h.perm ?_, fun hm => ?_⟩
  · conv => lhs; rw [e]
    rw [List.append_assoc]
    exact List.Perm.append_left _ List.perm_append_comm
  · exact (List.nodup_append.1 h.1).2.2 _ hm x (by rw [e]; simp) rfl
theorem All.give {N : Nat} {O F : List Int} {k : Nat} (h : All N O F) (hk : k < O.length) : All N (O.take k ++ O.drop (k + 1)) (F ++ [O[k]]) ∧ O[k] ∉ F := by
  have e : O = O.take k ++ (O[k] :: O.drop (k + 1)) := by rw [List.getElem_cons_drop, List.take_append_drop]
  refine ⟨h.perm ?_, fun hm => ?_⟩
  · conv => lhs; rw [e]
    simp only [List.append_assoc, List.cons_append]
    refine List.Perm.append_left _ ?_
    have : (O[k] :: (O.drop (k + 1) ++ F)).Perm ((O.drop (k + 1) ++ F) ++ [O[k]]) := (List.perm_append_singleton _ _).symm
    simpa using this
  · exact (List.nodup_append.1 h.1).2.2 _ (List.getElem_mem hk) _ hm rfl
theorem All.full {N : Nat} {O F : List Int} (h : All N O F) : (F.getLast? = none ↔ O.length = N) := by
  rw [List.getLast?_eq_none_iff]
  have := h.2.2
  rw [List.length_append] at this
  constructor
  · rintro rfl; simpa using this
  · intro e; exact List.eq_nil_of_length_eq_zero (by omega)

set_option maxHeartbeats 800000 in
theorem l13_PoolRuns_sp {size : Int} {a : Option Addr} {n c : Nat} {l : List PStep} {w : World} (h : SlF w (.slice a n c) l) :
    Sp Try.prog F.l13_PoolRuns #[.int .i64 size, .slice a n c] w fun v w' => v = .bool true ∧ Stp w w' := by
  have q_ := h.len
  obtain rfl := q_
  refine en TBok rfl ?_
  have T := pool_New_sp (size := size) (w := w)
  by_cases hs : size < 1 ∨ 400 < size
  · have he : newP size = (zP, 1) := by unfold newP; rw [if_pos hs]
    rw [he] at T
    refine rcall (T) ?_
    rintro v w1 ⟨⟨pv, rfl, ⟨a1, c1, rfl, O1⟩⟩, e1⟩
    refine ral fun b2 w2a n2 z2 => ?_
    refine rsto (B := z2) (vs := [.int .i64 0, .slice a1 0 c1]) rfl rfl rfl (pl_one _ _ _ _) fun w2 B2 f2 _ => ?_
    have s2 : Stp w1 w2 := ⟨Fr.st Le.e f2 fun i hi => by subst hi; exact n2.lo⟩
    clear z2
    refine ite (fun _ => ?_) (fun h => absurd (by first | omega | decide | (dsimp only <;> omega)) h)
    refine rcall (l13_pools_sp) ?_
    rintro v w3 ⟨rfl, e3⟩
    refine ite (fun h => absurd h (by first | omega | decide | (dsimp only <;> omega))) (fun _ => ?_)
    refine ite (fun h1 => ?_) (fun h1 => ?_)
    · refine ite (fun h => absurd h (by first | omega | decide | (dsimp only <;> omega))) (fun _ => ?_)
      refine rbeq (fun _ => ?_) (fun h => absurd rfl h)
      exact ⟨rfl, stp⟩
    · refine rbeq (fun _ => ?_) (fun h => absurd rfl h)
      exact ⟨rfl, stp⟩
  have q_ := Int.eq_ofNat_of_zero_le (show (0 : Int) ≤ size by omega)
  obtain ⟨N, rfl⟩ := q_
  have he : newP (N : Int) = (((N : Int), downTo N), 0) := by unfold newP; rw [if_neg hs]; rfl
  rw [he] at T
  have hdl := downTo_len N
  refine rcall (T) ?_
  rintro v w1 ⟨⟨pv, rfl, ⟨a1, c1, rfl, O1⟩⟩, e1⟩
  refine ral fun b2 w2a n2 z2 => ?_
  refine rsto (B := z2) (vs := [.int .i64 N, .slice a1 N c1]) (by show [_, _] = _; rw [hdl]) rfl rfl (pl_one _ _ _ _) fun w2 B2 f2 _ => ?_
  have s2 : Stp w1 w2 := ⟨Fr.st Le.e f2 fun i hi => by subst hi; exact n2.lo⟩
  clear z2
  dsimp only at O1
  rw [hdl] at O1
  refine ite (fun h => absurd rfl h) (fun _ => ?_)
  refine ite (fun h1 => ?_) (fun h1 => ?_)
  · refine rcall (l13_pools_sp) ?_
    rintro v w3 ⟨rfl, e3⟩
    refine ite (fun _ => ?_) (fun h => absurd (by first | omega | decide | (dsimp only <;> omega)) h)
    refine ite (fun _ => ?_) (fun h => absurd (by first | omega | decide | (dsimp only <;> omega)) h)
    refine ite (fun _ => ?_) (fun h => absurd (by first | omega | decide | (dsimp only <;> omega)) h)
    refine rbeq (fun _ => ?_) (fun h => absurd rfl h)
    exact ⟨rfl, stp⟩
  refine cnt1 TBok 17 [4, 9, 10, 11, 12, 13, 14, 15] 7 8 l.length (fun k v u => ∃ (O R : List Int) (oa : Option Addr) (oc : Nat) (fa : Option Addr) (fc : Nat), v = .slice oa O.length oc ∧ Own w1.heap.size E.int u (.slice oa O.length oc) O ∧ Bk u b2 [.int .i64 N, .slice fa R.length fc] E.api_Pool ∧ Own w.heap.size E.int u (.slice fa R.length fc) R ∧ All N O R ∧ Stp w1 u) rfl rfl
    ⟨[], downTo N, none, 0, a1, c1, rfl, Own.nil _ _ _, by rw [hdl]; exact B2, by rw [hdl]; exact O1.up, downTo_all N, stp⟩ ?_
  rintro k v g u hk ⟨O, R, oa, oc, fa, fc, rfl, HO, BF, HF, hall, e⟩
  have hol : O.length + R.length = N := by have := hall.2.2; rw [List.length_append] at this; exact this
  have hok := hall.ok (by omega) (by omega)
  refine ite (fun hlt => ?_) (fun hge => ?_)
  · have hka : k < l.length := by omega
    refine rix (h.up (w' := u)) (x := l[k]) (by simp) fun b4 o4 A4 => rload1 (A4.cell0 rfl) ?_
    refine ite (fun h2 => ?_) (fun h2 => ?_)
    · -- one is taken
      refine rldG (B := BF) rfl rfl ?_
      have T := pool_Take_sp (sz := N) (HF.sl.up (w' := u)) (by omega)
      cases hl : R.getLast? with
      | none =>
        have ht : takeP ((N : Int), R) = (0, zP, 140) := by unfold takeP; rw [if_pos hok]; simp only [hl]
        rw [ht] at T
        refine rcall (T) ?_
        rintro v u1 ⟨⟨pv, rfl, ⟨a5, c5, rfl, O5⟩⟩, e5⟩
        refine ral fun b6 w6a n6 z6 => ?_
        refine rsto (B := z6) (vs := [.int .i64 0, .slice a5 0 c5]) rfl rfl rfl (pl_one _ _ _ _) fun w6 B6 f6 _ => ?_
        have s6 : Stp u1 w6 := ⟨Fr.st Le.e f6 fun i hi => by subst hi; exact n6.lo⟩
        clear z6
        have hfull := hall.full.1 hl
        refine ite (fun h => absurd h (by first | omega | decide | (dsimp only <;> omega))) (fun _ => ?_)
        refine ite (fun h => absurd h (by first | omega | decide | (dsimp only <;> omega))) (fun _ => ?_)
        refine rbne (fun h => absurd rfl h) (fun _ => ?_)
        refine ite (fun h => absurd h (by first | omega | decide | (dsimp only <;> omega))) (fun _ => ?_)
        refine ite (fun h => absurd h (by first | omega | decide | (dsimp only <;> omega))) (fun _ => ?_)
        exact rar (by omega) ⟨rfl, hka, O, R, oa, oc, fa, fc, rfl, HO.up, BF.mv, HF.up, hall, stp⟩
      | some x =>
        have ht : takeP ((N : Int), R) = (x, ((N : Int), R.dropLast), 0) := by unfold takeP; rw [if_pos hok]; simp only [hl]
        rw [ht] at T
        refine rcall (T) ?_
        rintro v u1 ⟨⟨pv, rfl, ⟨a5, c5, rfl, O5⟩⟩, e5⟩
        refine ral fun b6 w6a n6 z6 => ?_
        refine rsto (B := z6) (vs := [.int .i64 N, .slice a5 R.dropLast.length c5]) rfl rfl rfl (pl_one _ _ _ _) fun w6 B6 f6 _ => ?_
        have s6 : Stp u1 w6 := ⟨Fr.st Le.e f6 fun i hi => by subst hi; exact n6.lo⟩
        clear z6
        have hnf : ¬ O.length = N := fun e => by rw [hall.full.2 e] at hl; cases hl
        have htk := hall.take hl
        obtain ⟨hall2, hno⟩ := htk
        refine ite (fun _ => ?_) (fun h => absurd (by first | omega | decide | (dsimp only <;> omega)) h)
        refine ite (fun _ => ?_) (fun h => absurd (by first | omega | decide | (dsimp only <;> omega)) h)
        refine rbne (fun h => absurd rfl h) (fun _ => ?_)
        refine ite (fun _ => ?_) (fun h => absurd (by first | omega | decide | (dsimp only <;> omega)) h)
        refine rcall ((r05_In_sp (HO.sl.up (w' := w6)) (by omega)).ff hno) ?_
        rintro v u7 ⟨rfl, e7⟩
        refine ite (fun _ => ?_) (fun h => absurd (by first | omega | decide | (dsimp only <;> omega)) h)
        refine rbs1 x rfl rfl (by decide) fun b8 u8 e8 _ S8 => ?_
        refine rapp1 (u := w1) ⟨rfl, rfl⟩ (HO.up (w' := u8)) S8 (by omega) fun v9 u9 O9 f9 s9 => ?_
        have BF9 := (BF.mv (w := u8)).fro HO.up f9 (by decide)
        have B69 := (B6.mv (w := u8)).fro HO.up f9 (by decide)
        have O59 := (O5.up (w' := u8)).fr f9 fun b hb _ hd => by have := HO.wr hd; omega
        have q9 := O9.shape
        obtain ⟨a9, c9, rfl⟩ := q9
        refine rldG (B := B69) rfl rfl ?_
        refine rsto (B := BF9) (vs := [.int .i64 N, .slice a5 R.dropLast.length c5]) rfl rfl rfl (pl_one _ _ _ _) fun u10 B10 f10 _ => ?_
        have s10 : Stp w1 u10 := ⟨Fr.st Le.e f10 fun i hi => by subst hi; exact n2.lo⟩
        exact rar (by omega) ⟨rfl, hka, O ++ [x], R.dropLast, a9, c9, a5, c5, rfl, O9.frc f10 BF9 (by decide), B10, (O59.frc f10 BF9 (by decide)).mono (Le.size (a := w) (b := u)), hall2, s10⟩
    · -- one is given back
      refine rix (h.up (w' := u)) (x := l[k]) (by simp) fun b5 o5 A5 => rload1 (A5.cell 1 rfl) ?_
      refine ite (fun h3 => ?_) (fun h3 => ?_)
      · exact rar (by omega) ⟨rfl, hka, O, R, oa, oc, fa, fc, rfl, HO, BF, HF, hall, stp⟩
      refine ite (fun h4 => ?_) (fun h4 => ?_)
      · exact rar (by omega) ⟨rfl, hka, O, R, oa, oc, fa, fc, rfl, HO, BF, HF, hall, stp⟩
      have hj := Int.eq_ofNat_of_zero_le (show (0 : Int) ≤ l[k].at' by omega)
      obtain ⟨j, hj⟩ := hj
      have hjO : j < O.length := by omega
      have hgv := hall.give hjO
      obtain ⟨hall2, hno⟩ := hgv
      have hOj : O[l[k].at'.toNat]? = some O[j] := by rw [hj]; simp
      have hg : giveP ((N : Int), R) O[j] = (((N : Int), R ++ [O[j]]), 0) := by
        have hr := hall.2.1 O[j] (List.mem_append_left _ (List.getElem_mem hjO))
        unfold giveP; dsimp only; rw [if_pos hok, if_neg (by omega), if_neg hno]
      have T2 : ∀ u', Stp u u' → Sp Try.prog F.pool_Give #[plV N fa R.length fc, .int .i64 O[j]] u' fun v w' => (∃ pv, v = .tuple #[pv, .int .i64 0] ∧ PoolO u'.heap.size w' pv ((N : Int), R ++ [O[j]])) ∧ Stp u' w' := by
        intro u' s
        have T := pool_Give_sp (sz := N) (m := O[j]) (HF.sl.up (w' := u')) (by omega)
        rw [hg] at T; exact T
      have hOl : (O ++ R).length = N := hall.2.2
      refine drawRT TBok mixed (fun i => u.heap.size ≤ i) (.one 0 (.one 1 (.one 2 (.one 3 (.one 4 (.two 5 (.one 6 (.one 7 (.one 8 (.one 9 (.one 10 (.one 11 .nil)))))) 9 (.one 5 (.one 6 (.one 7 (.one 8 (.one 10 (.one 11 .nil)))))))))))) (by kernel_rfl) fun u2 e2' _ => ?_
      have zq := BF.lt
      refine tldG (B := BF) rfl rfl (by omega) ?_
      have tixI : ∀ {D : Nat → Prop} {kk : Value → Prop}, (∀ b o, At u2 b o (enc O[j]) → Value.blk (.slice oa O.length oc) = some b → kk (.pointer (some ⟨b, o, none⟩))) → TakeS Try.prog (Instr.indexAt E.s_int (.slice oa O.length oc) (.int .i64 l[k].at')) D kk u2 := by
        intro D kk hkk
        rw [hj]
        exact tix (HO.sl.up (w' := u2)) (by simp) hkk
      refine tixI fun b4 o4 A4 hb4 => tload1 (A4.cell0 rfl) (by have := HO.lt (fun e => by rw [e] at hjO; simp at hjO); obtain ⟨gg, hg1, _, hg2⟩ := this; rw [hg1] at hb4; cases hb4; omega) ?_
      refine ⟨?_, ?_⟩
      · refine rcall (T2 u2 stp) ?_
        rintro v u3 ⟨⟨pv, rfl, ⟨a8, c8, rfl, O8⟩⟩, e3'⟩
        refine ⟨e3'.e.fr, ?_⟩
        refine ral fun b5 u4 n5 z5 => ⟨n5.e.fr, ?_⟩
        refine rsto (B := z5) (vs := [.int .i64 N, .slice a8 (R ++ [O[j]]).length c8]) rfl rfl rfl (pl_one _ _ _ _) fun u5 B5 f5 _ => ?_
        have s5 : Stp u u5 := ⟨Fr.st Le.e f5 fun i hi => by subst hi; exact n5.lo⟩
        refine ⟨f5.mono fun i _ hi => by subst hi; exact n5.lo, ?_⟩
        have O8' := ((O8.up (w' := u4)).frc f5 z5 (by decide)).mono (Le.size (a := u) (b := u2))
        clear z5
        refine ite (fun h => absurd rfl h) (fun _ => ?_)
        refine rldG (B := B5) rfl rfl ?_
        have BF5 := BF.mv (w := u5)
        refine rsto (B := BF5) (vs := [.int .i64 N, .slice a8 (R ++ [O[j]]).length c8]) rfl rfl rfl (pl_one _ _ _ _) fun u6 B6 f6 _ => ?_
        have s6 : Stp w1 u6 := ⟨Fr.st Le.e f6 fun i hi => by subst hi; exact n2.lo⟩
        have HO6 := (HO.up (w' := u5)).frc f6 BF5 (by decide)
        have O86 := O8'.frc f6 BF5 (by decide)
        clear BF5
        have rslI : ∀ {kk : Value → World → Prop} {pn : List PanicEntry → World → Prop} {uu : World}, (∀ a' c', SlF u6 (.slice a' j c') (O.take j) → kk (.slice a' j c') uu) → SemV Try.prog (Instr.sliceAt E.s_int (.slice oa O.length oc) none (some (.int .i64 l[k].at')) none) kk pn uu := by
          intro kk pn uu hkk
          rw [hj]
          refine rslB none (some j) HO6.sl (by simp) (by simpa using Nat.le_of_lt hjO) fun a1 c1 S1 => ?_
          rw [sl_take] at S1
          exact hkk a1 c1 S1
        refine rslI fun a1' c1' S1 => ?_
        refine rapp (u := u6) ⟨rfl, rfl⟩ (Own.nil _ E.int _) S1 (by simp; omega) fun v7 u7 O7 f7 s7 => ?_
        rw [List.nil_append] at O7
        refine rarE (y := ((j + 1 : Nat) : Int)) (by omega) (by omega) ?_
        refine rslB (some (j + 1)) none HO6.sl hjO (by simp) fun a2' c2' S2 => ?_
        rw [sl_drop] at S2
        refine rapp (u := u6) ⟨rfl, rfl⟩ O7 (S2.up (w' := u7)) (by simp; omega) fun v8 u8 O88 f8 s8 => ?_
        have hln : (O.take j ++ O.drop (j + 1)).length = O.length - 1 := by rw [List.length_append, List.length_take, List.length_drop]; omega
        have q_ := O88.shape
        obtain ⟨a9, c9, rfl⟩ := q_
        have L6 : Le u6 u8 := inferInstance
        exact rar (by omega) ⟨rfl, hka, O.take j ++ O.drop (j + 1), R ++ [O[j]], a9, c9, a8, c8, rfl, O88.older, B6.mv, (O86.up (w' := u8)).mono (Le.size (a := w) (b := u)), hall2, stp⟩
      · refine ral fun b5 u4 n5 z5 => ⟨n5.e.fr, ?_⟩
        refine rcall (T2 u4 stp) ?_
        rintro v u3 ⟨⟨pv, rfl, ⟨a8, c8, rfl, O8⟩⟩, e3'⟩
        refine ⟨e3'.e.fr, ?_⟩
        have z5' := z5.mv (w := u3)
        refine rsto (B := z5') (vs := [.int .i64 N, .slice a8 (R ++ [O[j]]).length c8]) rfl rfl rfl (pl_one _ _ _ _) fun u5 B5 f5 _ => ?_
        have s5 : Stp u u5 := ⟨Fr.st Le.e f5 fun i hi => by subst hi; exact n5.lo⟩
        refine ⟨f5.mono fun i _ hi => by subst hi; exact n5.lo, ?_⟩
        have O8' := (O8.frc f5 z5' (by decide)).mono (Le.size (a := u) (b := u4))
        clear z5 z5'
        refine ite (fun h => absurd rfl h) (fun _ => ?_)
        refine rldG (B := B5) rfl rfl ?_
        have BF5 := BF.mv (w := u5)
        refine rsto (B := BF5) (vs := [.int .i64 N, .slice a8 (R ++ [O[j]]).length c8]) rfl rfl rfl (pl_one _ _ _ _) fun u6 B6 f6 _ => ?_
        have s6 : Stp w1 u6 := ⟨Fr.st Le.e f6 fun i hi => by subst hi; exact n2.lo⟩
        have HO6 := (HO.up (w' := u5)).frc f6 BF5 (by decide)
        have O86 := O8'.frc f6 BF5 (by decide)
        clear BF5
        have rslI : ∀ {kk : Value → World → Prop} {pn : List PanicEntry → World → Prop} {uu : World}, (∀ a' c', SlF u6 (.slice a' j c') (O.take j) → kk (.slice a' j c') uu) → SemV Try.prog (Instr.sliceAt E.s_int (.slice oa O.length oc) none (some (.int .i64 l[k].at')) none) kk pn uu := by
          intro kk pn uu hkk
          rw [hj]
          refine rslB none (some j) HO6.sl (by simp) (by simpa using Nat.le_of_lt hjO) fun a1 c1 S1 => ?_
          rw [sl_take] at S1
          exact hkk a1 c1 S1
        refine rslI fun a1' c1' S1 => ?_
        refine rapp (u := u6) ⟨rfl, rfl⟩ (Own.nil _ E.int _) S1 (by simp; omega) fun v7 u7 O7 f7 s7 => ?_
        rw [List.nil_append] at O7
        refine rarE (y := ((j + 1 : Nat) : Int)) (by omega) (by omega) ?_
        refine rslB (some (j + 1)) none HO6.sl hjO (by simp) fun a2' c2' S2 => ?_
        rw [sl_drop] at S2
        refine rapp (u := u6) ⟨rfl, rfl⟩ O7 (S2.up (w' := u7)) (by simp; omega) fun v8 u8 O88 f8 s8 => ?_
        have hln : (O.take j ++ O.drop (j + 1)).length = O.length - 1 := by rw [List.length_append, List.length_take, List.length_drop]; omega
        have q_ := O88.shape
        obtain ⟨a9, c9, rfl⟩ := q_
        have L6 : Le u6 u8 := inferInstance
        exact rar (by omega) ⟨rfl, hka, O.take j ++ O.drop (j + 1), R ++ [O[j]], a9, c9, a8, c8, rfl, O88.older, B6.mv, (O86.up (w' := u8)).mono (Le.size (a := w) (b := u)), hall2, stp⟩
  · have q_ : k = l.length := by omega
    obtain rfl := q_
    refine rapp (u := u) ⟨rfl, rfl⟩ (Own.nil _ E.int _) HO.sl (by simp; omega) fun v7 u7 O7 f7 s7 => ?_
    rw [List.nil_append] at O7
    refine rld (B := BF) rfl ?_
    refine rapp (u := u) ⟨rfl, rfl⟩ O7 (HF.sl.up (w' := u7)) (by omega) fun v8 u8 O8 f8 s8 => ?_
    have q_ := O8.shape
    obtain ⟨a8, c8, rfl⟩ := q_
    refine rcall (l13_pools_sp) ?_
    rintro v u9 ⟨rfl, e9⟩
    refine rldG (B := BF) rfl rfl ?_
    refine rcall ((pool_Check_sp (sz := N) (HF.sl.up (w' := u9)) (by omega)).tt hok) ?_
    rintro v u10 ⟨rfl, e10⟩
    have hlen := hall.2.2
    refine ite (fun _ => ?_) (fun h => absurd (by rw [hlen]) h)
    refine rcall (r05_Rising_sp (O8.sl.up (w' := u10)) (by omega)) ?_
    rintro v u11 ⟨O11, e11⟩
    have q_ := O11.shape
    obtain ⟨a11, c11, rfl⟩ := q_
    have hrl := (rising_nodup (O ++ R)).2 hall.1
    refine ite (fun _ => ⟨rfl, stp⟩) (fun h => absurd (by rw [hrl, hlen]) h)
end Go.W
