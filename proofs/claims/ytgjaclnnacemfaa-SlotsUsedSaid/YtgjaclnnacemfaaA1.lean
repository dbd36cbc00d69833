/-
  Proved here: rows of words, queries and requests are compared place by place; what is too large to be looked at (contracts).
  Conditions: the rows can be read, and are no longer than is said at each.
-/
import Derived.Test.YtgjaclnnacemfaaHd
namespace Go.W
open Go Go.Proofs
open Enc (enc)
set_option maxRecDepth 10000

theorem QOk.up {wd : Wd} {w w' : World} {q : RQ} (h : QOk wd w q) [L : Le w w'] : QOk wd w' q := SlF.up h

theorem r01_Texts_sp {a b : Option Addr} {na ca nb cb : Nat} {la lb : List ByteArray} {w : World} (ha : SlF w (.slice a na ca) la) (hb : SlF w (.slice b nb cb) lb) (hn : la.length ≤ 1000000) :
    Sp Try.prog F.r01_Texts #[.slice a na ca, .slice b nb cb] w fun v w' => Tells (la = lb) v ∧ Stp w w' := by
  obtain rfl := ha.len
  obtain rfl := hb.len
  refine en TBok rfl ?_
  refine ite (fun h => ⟨.f (fun e => h (by rw [e])), stp⟩) (fun h => ?_)
  have hl : la.length = lb.length := by omega
  refine loop1 TBok 6 [4] 5 (fun i w' => ∃ k : Nat, k ≤ la.length ∧ i = .int .i64 k ∧ la.take k = lb.take k ∧ Stp w w') (fun i _ => la.length - (Go.RowKit.intOf i).toNat) rfl ⟨0, by omega, rfl, by simp, stp⟩ ?_
  rintro i g w' ⟨k, hk, rfl, ht, e⟩
  refine ite (fun hlt => ?_) (fun hge => ?_)
  · have hka : k < la.length := by omega
    have hkb : k < lb.length := by omega
    refine drawR TBok mixed (fun _ => False) (upF 9 0) (by kernel_rfl) fun w1 e1 _ => ?_
    refine tix ha.up (x := la[k]) (by simp) fun b1 o1 A1 _ => ?_
    refine tload1 (A1.cell0 rfl) id ?_
    refine tix hb.up (x := lb[k]) (by simp) fun b2 o2 A2 _ => ?_
    refine tload1 (A2.cell0 rfl) id ?_
    refine tsne (fun hne => ⟨.f (by rintro rfl; exact hne rfl), stp⟩) (fun he => ?_)
    refine rar (by omega) ⟨⟨k + 1, by omega, rfl, ?_, stp⟩, ?_⟩
    · rw [List.take_succ_eq_append_getElem hka, List.take_succ_eq_append_getElem hkb, ht, he]
    · show _ - (k + 1) < _ - k; omega
  · obtain rfl : k = la.length := by omega
    rw [List.take_of_length_le (Nat.le_refl _), List.take_of_length_le (by omega)] at ht
    exact ⟨.t ht, e⟩

theorem r18_SameQuery_sp {wd : Wd} {a b : RQ} {w : World} (ha : QOk wd w a) (hb : QOk wd w b) (hn : (wd a.words).length ≤ 1000000) :
    Sp Try.prog F.r18_SameQuery #[agg a, agg b] w fun v w' => Tells (sameQ wd a b) v ∧ Stp w w' := by
  refine en TBok rfl ?_
  refine rbx fun b1 w1 n1 B1 => rbx fun b2 w2 n2 B2 => ?_
  repeat refine rld rfl ?_
  refine ite (fun h1 => ?_) (fun h => ⟨.f fun q => h q.1, stp⟩)
  repeat refine rld rfl ?_
  refine ite (fun h2 => ?_) (fun h => ⟨.f fun q => h q.2.1, stp⟩)
  repeat refine rld rfl ?_
  refine ite (fun h3 => ?_) (fun h => ⟨.f fun q => h q.2.2.1, stp⟩)
  repeat refine rld rfl ?_
  obtain ⟨xa, ca, hxa⟩ := ha.shape
  obtain ⟨xb, cb, hxb⟩ := hb.shape
  have Sa : QOk wd w2 a := ha.up
  have Sb : QOk wd w2 b := hb.up
  unfold QOk at Sa Sb
  rw [hxa] at Sa; rw [hxb] at Sb
  have hT := r01_Texts_sp Sa Sb hn
  rw [← hxa, ← hxb] at hT
  refine rcall hT ?_
  rintro v w3 ⟨⟨rfl, h4⟩ | ⟨rfl, h4⟩, e3⟩
  · repeat refine rld rfl ?_
    refine ite (fun h5 => ?_) (fun h => ⟨.f fun q => h q.2.2.2.2.1, stp⟩)
    repeat refine rld rfl ?_
    refine ite (fun h6 => ?_) (fun h => ⟨.f fun q => h q.2.2.2.2.2, stp⟩)
    exact ⟨.t ⟨h1, h2, h3, h4, h5, h6⟩, stp⟩
  · exact ⟨.f fun q => h4 q.2.2.2.1, stp⟩

theorem r22_SameRequest_sp {wd : Wd} {a b : RReq} {w : World} (ha : QOk wd w a.q) (hb : QOk wd w b.q) (hn : (wd a.q.words).length ≤ 1000000) :
    Sp Try.prog F.r22_SameRequest #[agg a, agg b] w fun v w' => Tells (sameR wd a b) v ∧ Stp w w' := by
  refine en TBok rfl ?_
  refine rbx fun b1 w1 n1 B1 => rbx fun b2 w2 n2 B2 => ?_
  repeat refine rld rfl ?_
  refine ite (fun h1 => ?_) (fun h => ⟨.f fun q => h q.1, stp⟩)
  repeat refine rld rfl ?_
  refine ite (fun h2 => ?_) (fun h => ⟨.f fun q => h q.2.1, stp⟩)
  repeat refine rldG rfl rfl ?_
  refine rcall (r18_SameQuery_sp (wd := wd) (a := a.q) (b := b.q) ha.up hb.up hn) ?_
  rintro v w3 ⟨⟨rfl, h3⟩ | ⟨rfl, h3⟩, e3⟩
  · exact ⟨.t ⟨h1, h2, h3⟩, stp⟩
  · exact ⟨.f fun q => h3 q.2.2, stp⟩

/-- more than is looked at -/
def bigQ (wd : Wd) (q : RQ) : Prop := 20 < (wd q.words).length ∨ ∃ s ∈ wd q.words, 60 < s.size

theorem r18_Big_sp {wd : Wd} {q : RQ} {w : World} (hq : QOk wd w q) : Sp Try.prog F.r18_Big #[agg q] w fun v w' => Tells (bigQ wd q) v ∧ Stp w w' := by
  refine en TBok rfl ?_
  refine rbx fun b w1 n1 B1 => ?_
  obtain ⟨xa, ca, hxa⟩ := hq.shape
  have S1 : QOk wd w1 q := hq.up
  unfold QOk at S1
  rw [hxa] at S1
  have hc : nth (enc q) 3 = some (.slice xa (wd q.words).length ca) := by rw [← hxa]; rfl
  refine loop1 TBok 4 [2] 3 (fun i w' => ∃ k : Nat, k ≤ (wd q.words).length ∧ i = .int .i64 k ∧ (k = 0 ∨ (wd q.words).length ≤ 20) ∧ (∀ j, (hj : j < k) → (hl : j < (wd q.words).length) → ¬ 60 < (wd q.words)[j].size) ∧ w' = w1) (fun i _ => (wd q.words).length - (Go.RowKit.intOf i).toNat) rfl ⟨0, by omega, rfl, .inl rfl, by omega, rfl⟩ ?_
  rintro i g w' ⟨k, hk, rfl, h20, hb, rfl⟩
  have fin : ((wd q.words).length ≤ 20 → k = (wd q.words).length) → IteC ((20 : Int) < (wd q.words).length) (Tells (bigQ wd q) (.bool true) ∧ Stp w w') (Tells (bigQ wd q) (.bool false) ∧ Stp w w') := by
    intro hf
    refine ite (fun h => ⟨.t (.inl (by omega)), stp⟩) (fun h => ⟨.f ?_, stp⟩)
    rintro (h' | ⟨s, hs, h'⟩)
    · omega
    · obtain ⟨j, hj, rfl⟩ := List.mem_iff_getElem.1 hs
      exact hb j (by rw [hf (by omega)]; exact hj) hj h'
  refine rld hc ?_
  refine ite (fun hlt => ?_) (fun hge => ?_)
  · refine rld hc ?_
    refine ite (fun h2 => ?_) (fun h2 => ?_)
    · have hka : k < (wd q.words).length := by omega
      refine rld hc ?_
      refine rix S1 (x := (wd q.words)[k]) (by simp) fun b2 o2 A2 => ?_
      refine rload1 (A2.cell0 rfl) (ite (fun h3 => ?_) (fun h3 => ?_))
      · exact ⟨.t (.inr ⟨_, List.getElem_mem hka, by omega⟩), stp⟩
      · refine rar (by omega) ⟨⟨k + 1, by omega, rfl, .inr (by omega), fun j hj hl' => ?_, rfl⟩, ?_⟩
        · rcases Nat.lt_or_ge j k with h' | h'
          · exact hb j h' hl'
          · obtain rfl : j = k := by omega
            omega
        · show _ - (k + 1) < _ - k; omega
    · exact rld hc (fin (by omega))
  · exact rld hc (fin (by omega))
end Go.W
