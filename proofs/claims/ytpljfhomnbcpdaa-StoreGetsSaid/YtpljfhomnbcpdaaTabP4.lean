/-
  Proved here: tables: a key is dropped (contract).
  Conditions: the table lies in memory as is said at each.
-/
import Derived.Test.YtpljfhomnbcpdaaTabP3
namespace Go.W
open Go Go.Proofs
open Enc (enc)
set_option maxRecDepth 10000

theorem dist_mod {S a p : Nat} (ha : a < S) (hp : p < S) : ((p : Int) - a + S) % S = ((distN S a p : Nat) : Int) := by
  unfold distN
  split
  · rename_i h
    rw [Int.add_emod_right, Int.emod_eq_of_lt (by omega) (by omega)]; omega
  · rw [Int.emod_eq_of_lt (by omega) (by omega)]; omega
theorem getD_of {R : List PlD} {i : Nat} (h : i < R.length) (hu : (rowF R i).used = true) : R[i].used = true := by rwa [rowF_get h] at hu

set_option maxHeartbeats 800000 in
theorem Drop_sp {B b c most : Nat} {a : Option Addr} {s : TS} {k : KeyD} {w : World} (T : TabS B w b a c most s) :
    Sp Try.prog F.table_Table_Drop #[.pointer (some ⟨b, 0, none⟩), agg k] w fun v w' => v = .bool (dropTS s k).2 ∧ TabS B w' b a c most (dropTS s k).1 ∧ Fr (tabD B b a c most) w w' := by
  have TT := T
  obtain ⟨hB, R, T, hM, hu⟩ := T
  refine en TBok rfl ?_
  refine rbx fun bk w1 n1 B1 => ?_
  refine rpnil ?_
  refine rldG (B := B1) rfl rfl ?_
  refine rcall may_sp ?_
  rintro v w2 ⟨⟨rfl, hk⟩ | ⟨rfl, hk⟩, e2⟩
  rotate_left
  · have hg := getT_may T hk
    rw [hM] at hg
    have hd : dropTS s k = (s, false) := by unfold dropTS; rw [hg]
    rw [hd]
    exact ⟨rfl, TT.up, Fr.fr Le.e⟩
  refine rldG (B := B1) rfl rfl ?_
  refine rcall (find_sp (T.up (w' := w2)) hk) ?_
  rintro v w3 ⟨⟨g0, rfl, hF⟩, e3⟩
  have hi := hF.lt
  have hlen := T.len
  have hbnd := T.bnd
  have hgf := getT_find T.tab hF
  rw [rowF_get hi] at hgf
  have C := T.cell.mv (w := w3); have O := T.row.up (w' := w3)
  refine rld (B := C) rfl ?_
  refine rix O.sl (x := R[g0]) (by simp) fun b4 o4 A4 => ?_
  by_cases hur : R[g0].used = true
  rotate_left
  · have hur : R[g0].used = false := by simpa using hur
    rw [hur, if_neg (by simp), hM] at hgf
    have hd : dropTS s k = (s, false) := by unfold dropTS; rw [hgf]
    rw [hd]
    refine rload1 (v := .bool false) (A4.cell 4 (by simp [enc, hur])) ?_
    exact ⟨rfl, TT.up, Fr.fr Le.e⟩
  have hur' : (rowF R g0).used = true := by rw [rowF_get hi]; exact hur
  have hkey : (rowF R g0).key = k := by obtain ⟨_, _, _, _, h⟩ := hF; exact h hur'
  rw [hur, if_pos rfl, hM] at hgf
  have hd : dropTS s k = (⟨fun k' => if k' = k then none else s.M k', s.u - 1⟩, true) := by unfold dropTS; rw [hgf]
  rw [hd]
  have hpos : 0 < usedN R := by
    unfold usedN; exact List.countP_pos_iff.2 ⟨_, List.getElem_mem hi, hur⟩
  refine rload1 (v := .bool true) (A4.cell 4 (by simp [enc, hur])) ?_
  refine rld (B := C) rfl ?_
  refine rarE (y := ((usedN R - 1 : Nat) : Int)) (by omega) (by omega) ?_
  refine rsto (B := C) (vs := [.int .i64 ((usedN R - 1 : Nat) : Int)]) rfl rfl rfl (by simp; rfl) fun u1 C1 f1 _ => ?_
  have O1 := O.frc f1 C (by decide)
  have D1 : Fr (tabD B b a c most) w u1 := (Fr.fr Le.e : Fr (tabD B b a c most) w w3).trans (f1.mono fun j _ hj => .inl hj)
  clear C O
  refine rld (B := C1) rfl ?_
  refine rbuild (cs := enc zPl) rfl ?_
  refine rixO rfl O1 (x := R[g0]) (by simp) fun gg hgg _ A => ?_
  refine rstO' rfl zPl O1 hgg hi rfl fun u2 O2 f2 _ => ?_
  have C2 := C1.fro O1 f2 (by decide)
  have D2 : Fr (tabD B b a c most) w u2 := D1.trans (f2.mono fun j _ hj => .inr hj)
  clear C1 O1
  have G := GapL.start T.tab hi hur'
  rw [hkey, hM] at G
  have hfb := free_behind (R := R) hi (by omega) hur'
  obtain ⟨s0, hs1, hs2, p0, hp0, hpu⟩ := hfb
  have hne0 : p0 ≠ g0 := by rintro rfl; rw [hur'] at hpu; cases hpu
  have hpu' : (rowF (R.set g0 zPl) p0).used = false := by rw [rowF_set hi, upR1_ne _ _ hne0]; exact hpu
  refine rld (B := C2) rfl ?_
  refine rcall (after_sp (n := 2 * most) (i := g0) C2 (by omega) (by omega)) ?_
  rintro v u3 ⟨rfl, e3'⟩
  have ha0 := aftN_on (n := R.length) hi
  have hm0 : ∀ x ∈ R.set g0 zPl, x.used = true → mayK x.key := by
    intro x hx ux
    have q_ := mem_set_cases hx
    rcases q_ with h | rfl
    · exact T.may x h ux
    · cases ux
  have hz0 : ∀ x ∈ R.set g0 zPl, x.used = false → x = zPl := by
    intro x hx ux
    have q_ := mem_set_cases hx
    rcases q_ with h | rfl
    · exact T.zero x h ux
    · rfl
  rw [← hlen]
  refine loop2 TBok 9 [8] 5 7 (fun v5 v7 u => ∃ (g t i δ : Nat) (R' : List PlD), v5 = .int .i64 g ∧ v7 = .int .i64 i ∧ GapL R' R.length (fun k' => if k' = k then none else s.M k') (usedN R - 1) g t ∧ On R.length g t i ∧ t < R.length ∧ On R.length i δ p0 ∧ t + δ < R.length ∧ (rowF R' p0).used = false ∧
      Bk u b [.slice a (2 * most) c, .int .i64 most, .int .i64 ((usedN R - 1 : Nat) : Int)] E.table_Table ∧ Own B E.table_place u (.slice a (2 * most) c) R' ∧ (∀ x ∈ R', x.used = true → mayK x.key) ∧ (∀ x ∈ R', x.used = false → x = zPl) ∧ Fr (tabD B b a c most) w u)
    (fun _ v7 _ => distN R.length (Go.RowKit.intOf v7).toNat p0) rfl
    ⟨g0, 1, aftN R.length g0, s0 - 1, _, rfl, rfl, G, ha0, by omega, by unfold On at *; omega, by omega, hpu', C2.mv, O2.up, hm0, hz0, D2.trans (Fr.fr e3'.e)⟩ ?_
  rintro _ _ gf u ⟨g, t, i, δ, R', rfl, rfl, G', hit, ht, hpd, htd, hpu2, C, O, hmay, hzero, D⟩
  clear C2 O2
  have hl' := G'.len
  have hil : i < R'.length := by rw [hl']; exact hit.1
  have hRi : rowF R' i = R'[i] := rowF_get hil
  refine rld (B := C) rfl ?_
  refine rix O.sl (x := R'[i]) (by simp) fun b5 o5 A5 => ?_
  by_cases hui : R'[i].used = true
  rotate_left
  · have hui : R'[i].used = false := by simpa using hui
    refine rload1 (v := .bool false) (A5.cell 4 (by simp [enc, hui])) ?_
    have hdone := G'.done hit ht (by rw [hRi]; exact hui)
    obtain ⟨q1, q2, q3⟩ := hdone
    refine ⟨rfl, ⟨hB, R', ⟨by rw [q3]; exact C, O, by rw [hl']; exact hlen, q1, ⟨hbnd.1, hbnd.2.1, by omega⟩, hmay, hzero⟩, q2, by rw [q3, hu]⟩, D⟩
  refine rload1 (v := .bool true) (A5.cell 4 (by simp [enc, hui])) ?_
  have huiF : (rowF R' i).used = true := by rw [hRi]; exact hui
  have hnp : i ≠ p0 := by rintro rfl; rw [huiF] at hpu2; cases hpu2
  have hδ : 1 ≤ δ := by unfold On at hpd; omega
  refine rld (B := C) rfl ?_
  refine rix O.sl (x := R'[i]) (by simp) fun b6 o6 A6 => rloadA (cs := enc R'[i].key) (A6.sub 0 3) rfl ?_
  have TH := home_sp (k := R'[i].key) C (by omega) (hmay _ (List.getElem_mem hil) hui)
  rw [← hlen] at TH
  refine rcall TH ?_
  rintro v u4 ⟨rfl, e4⟩
  have hh := homeN_lt (S := R.length) (by omega) R'[i].key
  have hgl := G'.gap.lt
  have hdm := dist_mod hh hit.1
  have hdg := dist_mod hgl hit.1
  have hdt : distN R.length g i = t := distN_on ht hit
  have hod := on_distN hh hit.1
  have C4 := C.mv (w := u4); have O4 := O.up (w' := u4)
  have ha := aftN_on (n := R.length) hit.1
  have hdist : On R.length (aftN R.length i) (δ - 1) p0 := by unfold On at *; omega
  have hmeas : distN R.length (aftN R.length i) p0 < distN R.length i p0 := by
    rw [distN_on (by omega) hpd, distN_on (by omega) hdist]; omega
  refine drawR TBok mixed (fun _ => False) (upF 15 0) (by kernel_rfl) fun u5 e5 _ => ?_
  refine rar (by omega) (rar (by omega) (rrem (by omega) (by omega) ?_))
  refine rar (by omega) (rar (by omega) (rrem (by omega) (by omega) ?_))
  refine ite (fun hlt => ?_) (fun hge => ?_)
  · have hlt' : distN R.length (homeN R.length R'[i].key) i < t := by omega
    have TH := after_sp (n := 2 * most) (i := i) (C4.mv (w := u5)) (by omega) (by omega)
    rw [← hlen] at TH
    refine rcall TH ?_
    rintro v u6 ⟨rfl, e6⟩
    refine ⟨⟨g, t + 1, aftN R.length i, δ - 1, R', rfl, rfl, G'.keep hit ht huiF hod.1 (by rw [hRi]; exact hod.2) hlt', by unfold On at *; omega, by omega, hdist, by omega, hpu2, C4.mv, O4.up, hmay, hzero, D.trans (Fr.fr Le.e)⟩, hmeas⟩
  · have hge' : t ≤ distN R.length (homeN R.length R'[i].key) i := by omega
    have hgR : g < R'.length := by rw [hl']; exact hgl
    have hgi : g ≠ i := by have := G'.gap.pos; unfold On at hit; omega
    have Gm := G'.move hit ht huiF hod.1 (by rw [hRi]; exact hod.2) hge'
    rw [hRi] at Gm
    have hpg : p0 ≠ g := by unfold On at *; have := G'.gap.pos; omega
    have C5 := C4.mv (w := u5); have O5 := O4.up (w' := u5)
    refine drawRT TBok mixed (ownD B (.slice a (2 * most) c)) (.one 0 (.one 1 (.one 2 (.one 3 (.one 4 (.one 5 (.one 6 (.one 7 (.one 8 (.one 9 (.one 10 (.one 11 (.one 12 (.one 13 (.one 14 (.one 15 (.one 17 (.lone 16 (.one 18 (.one 19 (.one 20 (.one 21 .nil)))))))))))))))))))))) (by kernel_rfl) fun u6 e6 _ => ?_
    refine tld (B := C5) rfl (C5.notOwn O5 (by decide)) ?_
    refine tld (B := C5) rfl (C5.notOwn O5 (by decide)) ?_
    refine tld (B := C5) rfl (C5.notOwn O5 (by decide)) ?_
    refine tix (O5.sl.up (w' := u6)) (x := R'[i]) (by simp) fun b7 o7 A7 _ => ?_
    refine tbuild (cs := enc zPl) rfl ?_
    refine rloadA A7 rfl ⟨Fr.refl _ _, ?_⟩
    refine tixO rfl (O5.up (w' := u6)) (x := R'[g]) (by simp) fun g1 hg1 _ A => ?_
    refine rstO' rfl R'[i] (O5.up (w' := u6)) hg1 hgR rfl fun u7 O7 f7 _ => ⟨f7, ?_⟩
    refine tixO rfl O7 (x := R'[i]) (by rw [List.getElem?_set_ne hgi]; simp) fun g2 hg2 _ A => ?_
    refine rstO' rfl zPl O7 hg2 (by rw [List.length_set]; exact hil) rfl fun u8 O8 f8 _ => ⟨f8, ?_⟩
    have C7 := (C5.mv (w := u6)).fro (O5.up (w' := u6)) f7 (by decide)
    have C8 := C7.fro O7 f8 (by decide)
    have TH := after_sp (n := 2 * most) (i := i) C8 (by omega) (by omega)
    rw [← hlen] at TH
    refine rcall TH ?_
    rintro v u9 ⟨rfl, e9⟩
    have hset1 : g < R'.length := hgR
    have hset2 : i < (R'.set g R'[i]).length := by rw [List.length_set]; exact hil
    have hpu3 : (rowF ((R'.set g R'[i]).set i zPl) p0).used = false := by
      rw [rowF_set hset2, rowF_set hset1, upR1_ne _ _ (Ne.symm hnp), upR1_ne _ _ hpg]; exact hpu2
    refine ⟨⟨i, 1, aftN R.length i, δ - 1, _, rfl, rfl, Gm, ha, by omega, hdist, by omega, hpu3, C8.mv, O8.up, fun x hx ux => ?_, fun x hx ux => ?_, ((D.trans (Fr.fr (Le.e (a := u) (b := u6)))).trans (f7.mono fun j _ hj => .inr hj)).trans ((f8.mono fun j _ hj => .inr hj).trans (Fr.fr e9.e))⟩, hmeas⟩
    · have q_ := mem_set_cases hx
      rcases q_ with h | rfl
      · have q_ := mem_set_cases h
        rcases q_ with h | rfl
        · exact hmay x h ux
        · exact hmay _ (List.getElem_mem hil) ux
      · cases ux
    · have q_ := mem_set_cases hx
      rcases q_ with h | rfl
      · have q_ := mem_set_cases h
        rcases q_ with h | rfl
        · exact hzero x h ux
        · rw [hui] at ux; cases ux
      · rfl
end Go.W
