/-
  Proved here: the law PartHomes returns true (a walk through the law).
  Conditions: the row can be read.
-/
import Derived.Test.YtgplodgpbhddbaaPartX
namespace Go.W
open Go Go.Proofs
open Enc (enc)
set_option maxRecDepth 10000

theorem homeV_shape (v k : Int) : ∃ (p : Int) (q : Bool), homeV v k = .tuple #[.int .i64 p, .bool q] := by
  unfold homeV
  split
  · exact ⟨_, _, rfl⟩
  · exact ⟨_, _, rfl⟩
theorem flat_same {M M' : List Rw} (h : M.map (·.s) = M'.map (·.s)) : flat M = flat M' := by
  have e : ∀ L : List Rw, flat L = (L.map (·.s)).map SV.v := fun L => by
    induction L with
    | nil => rfl
    | cons x t ih => rw [flat_cons, ih]; rfl
  rw [e, e, h]
theorem Own.same {B : Nat} {e : TypeId} {w : World} {v : Value} {M M' : List Rw} (h : Own B e w v M) (hs : M.map (·.s) = M'.map (·.s)) : Own B e w v M' := by
  have hl : M.length = M'.length := by have := congrArg List.length hs; simpa using this
  rcases h with ⟨h1, h2⟩ | h
  · subst h1
    have : M' = [] := List.length_eq_zero_iff.1 hl.symm
    subst this
    exact .inl ⟨rfl, h2⟩
  · rw [hl, flat_same hs] at h; exact .inr h
/-- numbers of one row are written over -/
theorem RowsO.poke {B : Nat} {w w' : World} {v : Value} {M : List Rw} {i : Nat} {l' : List Int} (R : RowsO B w v M) (hi : i < M.length) (O : Own B E.int w' M[i].v l') (f : Fr (ownD B M[i].v) w w') :
    RowsO B w' v (M.set i ⟨M[i].s, l'⟩) := by
  have hs : M.map (·.s) = (M.set i ⟨M[i].s, l'⟩).map (·.s) := by
    apply List.ext_getElem
    · simp
    · intro j h1 h2
      simp only [List.getElem_map, List.getElem_set]
      split
      · rename_i h; subst h; rfl
      · rfl
  have hv : ∀ j (hj : j < M.length), ((M.set i ⟨M[i].s, l'⟩)[j]'(by simpa using hj)).v = M[j].v := fun j hj => by
    rw [List.getElem_set]
    split
    · rename_i h; subst h; rfl
    · rfl
  refine ⟨(R.top.kept ((R.rows _ (List.getElem_mem hi)).wrote f (Nat.le_refl _) (List.mem_singleton.2 rfl)) (by decide)).same hs, fun x hx => ?_, fun p q hp hq hpq g hg => ?_, fun x hx g hg => ?_⟩
  · have q_ := List.mem_iff_getElem.1 hx
    obtain ⟨p, hp, rfl⟩ := q_
    rw [List.length_set] at hp
    rw [List.getElem_set]
    split
    · exact O
    · rename_i hne
      exact (R.rows _ (List.getElem_mem hp)).fr f fun g _ hg hd => R.apart i p hi hp hne g hd.2.1 hg
  · rw [List.length_set] at hp hq
    rw [hv q hq]
    rw [hv p hp] at hg
    exact R.apart p q hp hq hpq g hg
  · have q_ := List.mem_iff_getElem.1 hx
    obtain ⟨p, hp, rfl⟩ := q_
    rw [List.length_set] at hp
    rw [hv p hp] at hg
    exact Nat.lt_of_lt_of_le (R.lt _ (List.getElem_mem hp) g hg) f.size

set_option maxHeartbeats 1000000 in
theorem l06_PartHomes_sp {a : Option Addr} {n0 c : Nat} {l : List Int} {v k n : Int} {w : World} (h : SlF w (.slice a n0 c) l) :
    Sp Try.prog F.l06_PartHomes #[.slice a n0 c, .int .i64 v, .int .i64 k, .int .i64 n] w fun v w' => v = .bool true ∧ Stp w w' := by
  have q_ := h.len
  obtain rfl := q_
  refine en TBok rfl ?_
  refine ite (fun _ => ⟨rfl, stp⟩) (fun hl => ?_)
  refine rcall (r01_Own_sp h (by omega)) ?_
  rintro ov w1 ⟨O1, e1⟩
  have q_ := O1.shape
  obtain ⟨oa, oc, rfl⟩ := q_
  have q_ := homeV_shape v k
  obtain ⟨hp, hq, hh⟩ := q_
  have ph : ∀ u : World, Sp Try.prog F.part_Home #[.int .i64 v, .int .i64 k] u fun r w' => r = .tuple #[.int .i64 hp, .bool hq] ∧ w' = u := fun u => part_Home_sp.mono fun _ _ h1 => ⟨h1.1.trans hh, h1.2⟩
  have rh : ∀ u : World, Sp Try.prog F.r06_Home #[.int .i64 v, .int .i64 k] u fun r w' => r = .tuple #[.int .i64 hp, .bool hq] ∧ w' = u := fun u => r06_Home_sp.mono fun _ _ h1 => ⟨h1.1.trans hh, h1.2⟩
  refine rcall (ph _) ?_
  rintro _ w2 ⟨rfl, rfl⟩
  refine rcall (rh _) ?_
  rintro _ w3 ⟨rfl, rfl⟩
  refine rcall (part_Split_sp (k := k) (h.up (w' := w3)) (by omega)) ?_
  rintro _ w4 ⟨⟨cv, C, rfl, RC, hC⟩, e4⟩
  refine rcall (r06_Split_sp (k := k) (O1.sl.up (w' := w4)) (by omega)) ?_
  rintro _ w5 ⟨⟨dv, D, rfl, RD, hD⟩, e5⟩
  refine rcall (part_Parts_sp (n := n) (k := k) (w := w5)) ?_
  rintro _ w6 ⟨⟨xv, X, rfl, RX, hX⟩, e6⟩
  refine rcall (r06_Parts_sp (n := n) (k := k) (w := w6)) ?_
  rintro _ w7 ⟨⟨yv, Y, rfl, RY, hY⟩, e7⟩
  have TC := RC.top; have TD := RD.top; have TX := RX.top; have TY := RY.top
  have q_ := TC.shape
  obtain ⟨ca, cc, rfl⟩ := q_
  have q_ := TD.shape
  obtain ⟨da, dc, rfl⟩ := q_
  have q_ := TX.shape
  obtain ⟨xa, xc, rfl⟩ := q_
  have q_ := TY.shape
  obtain ⟨ya, yc, rfl⟩ := q_
  have hrowC : ∀ x ∈ C, x.l.length ≤ 100000 := fun x hx => by
    have h1 : x.l ∈ splitV l k := by rw [← hC]; exact List.mem_map.2 ⟨x, hx, rfl⟩
    unfold splitV at h1
    split at h1
    · have q_ := List.mem_map.1 h1
      obtain ⟨p, _, hp⟩ := q_
      rw [← hp]; have := rowOf_len l k p; omega
    · simp at h1
  have hCl : C.length ≤ 16 := by
    have h1 := congrArg List.length hC
    rw [List.length_map] at h1
    rw [h1]
    unfold splitV
    split
    · rename_i hk; simp [splitN]; have := hk.2.1; omega
    · simp
  have hXs : X.length ≤ 16 ∧ ∀ x ∈ X, x.l.length ≤ 1000 := by
    by_cases hk : (0 ≤ n ∧ n ≤ 200) ∧ 1 ≤ k ∧ k ≤ 16
    · have hp := (partsE_ok hk.1 hk.2).2
      rw [hp] at hX
      refine ⟨?_, fun x hx => ?_⟩
      · have h1 := congrArg List.length hX
        rw [List.length_map] at h1
        rw [h1]; simp [splitN]; omega
      · have h1 : x.l ∈ splitN (idL n.toNat) k := by rw [← hX]; exact List.mem_map.2 ⟨x, hx, rfl⟩
        have q_ := List.mem_map.1 h1
        obtain ⟨p, _, hp⟩ := q_
        rw [← hp]; have := rowOf_len (idL n.toNat) k p; rw [idL_len] at this; omega
    · have hp : partsV n k = [] := by
        by_cases hn : 0 ≤ n ∧ n ≤ 200
        · have hs : ¬ SplOk (idL n.toNat) k := fun h => hk ⟨hn, h.1, h.2.1⟩
          exact (if_pos hn).trans (if_neg hs)
        · exact if_neg hn
      rw [hp] at hX
      have : X = [] := List.map_eq_nil_iff.1 hX
      subst this
      exact ⟨by simp, by simp⟩
  refine ite (fun _ => ?_) (fun h => absurd rfl h)
  refine rbeq (fun _ => ?_) (fun h => absurd rfl h)
  refine rcall (r06_Same_sp (RC.sl.up (w' := w7)) (RD.sl.up (w' := w7)) (by omega) (fun x hx => by have := hrowC x hx; omega)) ?_
  rintro v' w8 ⟨⟨rfl, _⟩ | ⟨rfl, hh⟩, e8⟩
  case' inr => exact absurd (hC.trans hD.symm) hh
  refine ite (fun _ => ?_) (fun h => absurd rfl h)
  refine rcall (r06_Same_sp (RX.sl.up (w' := w8)) (RY.sl.up (w' := w8)) (by omega) (fun x hx => by have := hXs.2 x hx; omega)) ?_
  rintro v' w9 ⟨⟨rfl, _⟩ | ⟨rfl, hh⟩, e9⟩
  case' inr => exact absurd (hX.trans hY.symm) hh
  refine ite (fun _ => ?_) (fun h => absurd rfl h)
  refine cnt TBok 24 [] 23 C.length (fun j u => (∃ M, RowsO w3.heap.size u (.slice ca C.length cc) M ∧ M.length = C.length ∧ ∀ x ∈ M, x.l.length ≤ 100000) ∧ Stp w3 u) rfl rfl ⟨⟨C, RC.up, rfl, hrowC⟩, stp⟩ ?_
  rintro j g u hj ⟨⟨M, R, hMl, hrM⟩, e⟩
  refine ite (fun hlt => ?_) (fun hge => ?_)
  · have hjM : j < M.length := by omega
    refine cnt TBok 25 [] 24 M[j].l.length (fun m x => (∃ M', RowsO w3.heap.size x (.slice ca C.length cc) M' ∧ M'.length = C.length ∧ (∀ x ∈ M', x.l.length ≤ 100000) ∧ ∃ hj' : j < M'.length, M'[j].l.length = M[j].l.length) ∧ Stp w3 x) rfl rfl ⟨⟨M, R, hMl, hrM, hjM, rfl⟩, stp⟩ ?_
    rintro m g2 x hm ⟨⟨M', R', hMl', hrM', hj', hlen'⟩, e2⟩
    have hR := R'.sl.row hj'
    have hlen : M'[j].s.n = M'[j].l.length := hR.len
    have hcap := hrM' _ (List.getElem_mem hj')
    refine rix R'.top.sl (x := M'[j]) (by simp) fun b4 o4 A4 => rload1 (A4.cell0 rfl) ?_
    refine ite (fun hlt2 => ?_) (fun hge2 => ?_)
    · have hmM : m < M'[j].l.length := by omega
      refine rix R'.top.sl (x := M'[j]) (by simp) fun b5 o5 A5 => rload1 (A5.cell0 rfl) ?_
      have OR := R'.rows _ (List.getElem_mem hj')
      refine rixO rfl OR (x := M'[j].l[m]) (by simp) fun g8 hg8 _ _ => ?_
      refine rstO' rfl (-7 : Int) OR hg8 hmM rfl fun u8 O8 f8 _ => ?_
      have R8 := R'.poke hj' O8 f8
      have s8 : Stp w3 u8 := ⟨Fr.st Le.e f8 fun i hi => hi.1⟩
      have hj8 : j < (M'.set j ⟨M'[j].s, M'[j].l.set m (-7)⟩).length := by simpa using hj'
      refine rar (by omega) ⟨rfl, by omega, ⟨_, R8, by simp [hMl'], fun y hy => ?_, hj8, by simp [hlen']⟩, stp⟩
      have q_ := List.mem_or_eq_of_mem_set hy
      rcases q_ with hy | rfl
      · exact hrM' y hy
      · simpa using hcap
    · exact rar (by omega) ⟨rfl, by omega, ⟨M', R', hMl', hrM'⟩, stp⟩
  · refine rcall (l06_parted_sp) ?_
    rintro v' w10 ⟨rfl, e10⟩
    refine rcall (r01_Ints_sp (h.up (w' := w10)) (O1.sl.up (w' := w10)) (by omega)) ?_
    rintro v' w11 ⟨⟨rfl, _⟩ | ⟨rfl, hh⟩, e11⟩
    case' inr => exact absurd rfl hh
    exact ⟨rfl, stp⟩
end Go.W
