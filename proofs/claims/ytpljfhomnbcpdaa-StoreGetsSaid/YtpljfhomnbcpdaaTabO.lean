/-
  Proved here: a table's keys, rising (contract).
  Conditions: the table lies in memory as is said.
-/
import Derived.Test.YtpljfhomnbcpdaaTabR
import Derived.Test.YtpljfhomnbcpdaaCmp
import Derived.Test.YtpljfhomnbcpdaaSortK
namespace Go.W
open Go Go.Proofs
open Enc (enc)
set_option maxRecDepth 10000

instance : Inhabited KeyD := ⟨⟨0, 0, 0⟩⟩
def cfK (a b : KeyD) : Int := orI [cmpI a.slot b.slot, cmpI a.dir b.dir, cmpI a.v b.v]
theorem cfK_neg (a b : KeyD) : cfK a b < 0 ↔ lessK a b := by
  unfold cfK lessK
  rw [or_neg, or_neg, or_neg]
  have := or_nil
  constructor
  · rintro (h | ⟨h, h1 | ⟨h1, h2 | ⟨_, h2⟩⟩⟩)
    · exact .inl h
    · exact .inr ⟨h, .inl h1⟩
    · exact .inr ⟨h, .inr ⟨h1, h2⟩⟩
    · exact absurd h2 this
  · rintro (h | ⟨h, h1 | ⟨h1, h2⟩⟩)
    · exact .inl h
    · exact .inr ⟨h, .inl h1⟩
    · exact .inr ⟨h, .inr ⟨h1, .inl h2⟩⟩
theorem cfK_swo : Go.Sort.SWO (ltOf cfK) := swo_of lessK cfK_neg (fun x h => lessK_ne h rfl) (fun _ _ _ => lessK_trans) (fun x y z h k => by unfold lessK at *; omega)

theorem keys_closure_sp {a b : KeyD} {w : World} : Sp Try.prog F.table_Table_Keys_1 #[agg a, agg b] w fun v w' => v = .int .i64 (cfK a b) ∧ Gw w w' := by
  refine en TBok rfl ?_
  refine rbx fun ba w1 n1 B1 => rbx fun bb w2 n2 B2 => ?_
  refine drawRE TBok mixed (fun _ => False) (.one 0 (.one 1 (.one 2 (.one 3 (.one 5 (.one 6 (.one 7 (.one 8 (.one 10 (.one 11 (.one 12 (.one 13 (.one 4 (.one 9 (.one 14 (.one 15 (.one 16 (.one 17 .nil)))))))))))))))))) (by kernel_rfl) fun w3 e3 g3 => ?_
  refine tld (B := B1) rfl not_false (tld (B := B2) rfl not_false ?_)
  refine tld (B := B1) rfl not_false (tld (B := B2) rfl not_false ?_)
  refine tld (B := B1) rfl not_false (tld (B := B2) rfl not_false ?_)
  refine rcall cmp_Compare_sp ?_
  rintro v w4 ⟨rfl, rfl⟩
  refine ⟨Fr.refl _ _, ?_⟩
  refine rcall cmp_Compare_sp ?_
  rintro v w5 ⟨rfl, rfl⟩
  refine ⟨Fr.refl _ _, ?_⟩
  refine rcall cmp_Compare_sp ?_
  rintro v w6 ⟨rfl, rfl⟩
  refine ⟨Fr.refl _ _, ?_⟩
  refine rbsN [cmpI a.slot b.slot, cmpI a.dir b.dir, cmpI a.v b.v] rfl (vs := [.int .i64 (cmpI a.slot b.slot), .int .i64 (cmpI a.dir b.dir), .int .i64 (cmpI a.v b.v)]) rfl rfl (by decide) fun b7 w7 n7 S7 => ⟨n7.e, ?_⟩
  refine rcall (cmp_Or_sp S7 (by simp)) ?_
  rintro v w8 ⟨rfl, rfl⟩
  refine ⟨Fr.refl _ _, ?_⟩
  exact ⟨rfl, n1.gw.trans (n2.gw.trans (g3.trans n7.gw))⟩

/-! the keys that stand in a row -/
def usedK (R : List PlD) : List KeyD := (R.filter (·.used)).map (·.key)
theorem usedK_take {R : List PlD} {k : Nat} (h : k < R.length) : usedK (R.take (k + 1)) = if R[k].used then usedK (R.take k) ++ [R[k].key] else usedK (R.take k) := by
  unfold usedK
  rw [take_add h, List.filter_append]
  by_cases hu : R[k].used = true
  · simp [hu]
  · simp [hu]
theorem usedK_len (R : List PlD) : (usedK R).length = usedN R := by unfold usedK usedN; rw [List.length_map, List.countP_eq_length_filter]
theorem usedK_mem {R : List PlD} (T : TabL R) (k : KeyD) : k ∈ usedK R ↔ (getT R k).isSome = true := by
  rw [Option.isSome_iff_exists]
  unfold usedK
  simp only [List.mem_map, List.mem_filter]
  constructor
  · rintro ⟨x, ⟨hx, hu⟩, rfl⟩
    have q_ := List.mem_iff_getElem.1 hx
    obtain ⟨i, hi, rfl⟩ := q_
    exact ⟨R[i].n, (getT_has T).2 ⟨i, hi, by rw [rowF_get hi]; exact hu, by rw [rowF_get hi], by rw [rowF_get hi]⟩⟩
  · rintro ⟨n, hn⟩
    have q_ := (getT_has T).1 hn
    obtain ⟨i, hi, hu, hk, _⟩ := q_
    rw [rowF_get hi] at hu hk
    exact ⟨R[i], ⟨List.getElem_mem hi, hu⟩, hk⟩
theorem usedK_nodup {R : List PlD} (T : TabL R) : (usedK R).Nodup := by
  have key : ∀ k, k ≤ R.length → (usedK (R.take k)).Nodup ∧ ∀ x ∈ usedK (R.take k), ∃ j, j < k ∧ ∃ hj : j < R.length, R[j].used = true ∧ R[j].key = x := by
    intro k
    induction k with
    | zero => intro _; simp [usedK]
    | succ k ih =>
      intro hk
      have q_ := ih (by omega)
      obtain ⟨h1, h2⟩ := q_
      have hkl : k < R.length := by omega
      rw [usedK_take hkl]
      split
      · rename_i hu
        constructor
        · rw [List.nodup_append]
          refine ⟨h1, by simp, fun a ha b hb => ?_⟩
          rw [List.mem_singleton] at hb
          subst hb
          rintro rfl
          have q_ := h2 _ ha
          obtain ⟨j, hj, hjl, hju, hjk⟩ := q_
          have := T.uniq j k hjl hkl (by rw [rowF_get hjl]; exact hju) (by rw [rowF_get hkl]; exact hu) (by rw [rowF_get hjl, rowF_get hkl]; exact hjk)
          omega
        · intro x hx
          have q_ := List.mem_append.1 hx
          rcases q_ with hx | hx
          · obtain ⟨j, hj, r⟩ := h2 x hx; exact ⟨j, by omega, r⟩
          · rw [List.mem_singleton] at hx; subst hx; exact ⟨k, by omega, hkl, hu, rfl⟩
      · exact ⟨h1, fun x hx => by obtain ⟨j, hj, r⟩ := h2 x hx; exact ⟨j, by omega, r⟩⟩
  have := (key R.length (Nat.le_refl _)).1
  rwa [List.take_length] at this

theorem Keys_sp {B b c most : Nat} {a : Option Addr} {s : TS} {w : World} (T : TabS B w b a c most s) :
    Sp Try.prog F.table_Table_Keys #[.pointer (some ⟨b, 0, none⟩)] w fun v w' => (∃ l, KeysOf s l ∧ Own w.heap.size E.api_Key w' v l) ∧ Stp w w' := by
  obtain ⟨_, R, T, hM, hu⟩ := T
  have hlen := T.len
  have hbnd := T.bnd
  refine en TBok rfl ?_
  refine rpnil ?_
  refine rld (B := T.cell) rfl ?_
  rw [← hlen]
  refine cnt1 TBok 13 [5] 3 13 R.length (fun k v u => Own w.heap.size E.api_Key u v (usedK (R.take k)) ∧ Stp w u) rfl rfl ⟨Own.nil _ E.api_Key _, stp⟩ ?_
  rintro k v g u hk ⟨O, e⟩
  refine ite (fun hlt => ?_) (fun hge => ?_)
  · have hka : k < R.length := by omega
    have hut := usedK_take hka
    have hul : (usedK (R.take k)).length ≤ 1000 := by
      rw [usedK_len]; unfold usedN
      have h1 := List.countP_le_length (p := fun x : PlD => x.used) (l := R.take k)
      rw [List.length_take] at h1; omega
    have OR := T.row.sl.up (w' := u)
    rw [← hlen] at OR
    refine rix OR (x := R[k]) (by simp) fun b4 o4 A4 => rloadA A4 rfl ?_
    refine ral fun b5 u5 n5 z5 => ?_
    refine rsto (B := z5) (vs := enc R[k]) rfl rfl rfl (Enc.one _) fun u6 B6 f6 _ => ?_
    have s6 : Stp u u6 := ⟨Fr.st Le.e f6 fun i hi => by subst hi; exact n5.lo⟩
    have O6 := O.up (w' := u6)
    clear z5 f6
    by_cases hur : R[k].used = true
    · refine rld (B := B6) (v := .bool true) (by rw [show (nth _ _ = some (Value.bool R[k].used)) from rfl, hur]) ?_
      rw [if_pos hur] at hut
      refine rldG (ds := enc R[k].key) (B := B6) rfl rfl ?_
      refine rbs1 R[k].key rfl rfl (by decide) fun b7 u7 e7 _ S7 => ?_
      refine rapp1 (u := w) ⟨rfl, rfl⟩ O6.up S7 (by omega) fun v8 u8 O8 f8 s8 => ?_
      exact rar (by omega) ⟨rfl, hka, by rw [hut]; exact O8, stp⟩
    · have hur : R[k].used = false := by simpa using hur
      refine rld (B := B6) (v := .bool false) (by rw [show (nth _ _ = some (Value.bool R[k].used)) from rfl, hur]) ?_
      rw [if_neg (by simp [hur])] at hut
      exact rar (by omega) ⟨rfl, hka, by rw [hut]; exact O6, stp⟩
  · have q_ : k = R.length := by omega
    obtain rfl := q_
    rw [List.take_length] at O
    have hul : (usedK R).length ≤ 1000 := by rw [usedK_len]; omega
    refine rcall (sort_sp Try.sortK (k := 3) (show Agg Try.prog E.api_Key 3 from inferInstance) rfl cfK cfK_swo (f := F.slices_SortFunc_Key) rfl (fun x y W => keys_closure_sp) O (by omega)) ?_
    rintro r u1 ⟨rfl, l', hp, hs, O1, f1⟩
    have s1 : Stw w u u1 := ownD_stw f1
    refine ⟨⟨l', ⟨?_, fun x => ?_, ?_⟩, O1⟩, stp⟩
    · have hnd : l'.Nodup := hp.nodup_iff.2 (usedK_nodup T.tab)
      have := hs.and hnd
      exact this.imp fun ⟨h1, h2⟩ => lessK_tri (fun h => h1 ((cfK_neg _ _).2 h)) (Ne.symm h2)
    · rw [hp.mem_iff, usedK_mem T.tab, hM]
    · rw [hp.length_eq, usedK_len, hu]
theorem Keys_nil_sp {w : World} : Sp Try.prog F.table_Table_Keys #[.pointer none] w fun v w' => v = .slice none 0 0 ∧ Stp w w' := by
  refine en TBok rfl ?_
  refine rpnil ?_
  exact ⟨rfl, stp⟩
end Go.W
