/-
  Proved here: rows of words, queries and requests are compared place by place (contracts of Texts, SameQuery, SameRequest, Same).
  Conditions: the rows can be read, and are no longer than is said at each.
-/
import Derived.Test.YtgjaclnnacemfaaHd
namespace Go.W
open Go Go.Proofs
open Enc (enc)
set_option maxRecDepth 10000

theorem r01_Texts_sp {a b : Option Addr} {na ca nb cb : Nat} {la lb : List ByteArray} {w : World} (ha : SlF w (.slice a na ca) la) (hb : SlF w (.slice b nb cb) lb) (hn : la.length ≤ 1000000) :
    Sp Try.prog F.r01_Texts #[.slice a na ca, .slice b nb cb] w fun v w' => Tells (la = lb) v ∧ Ext w w' := by
  obtain rfl := ha.len
  obtain rfl := hb.len
  refine en TBok rfl ?_
  refine ite (fun h => ⟨.f (fun e => h (by rw [e])), Fr.refl _ _⟩) (fun h => ?_)
  have hl : la.length = lb.length := by omega
  refine loop1 TBok 6 [4] 5 (fun i w' => ∃ k : Nat, k ≤ la.length ∧ i = .int .i64 k ∧ la.take k = lb.take k ∧ Ext w w') (fun i _ => la.length - (Go.RowKit.intOf i).toNat) rfl ⟨0, by omega, rfl, by simp, Fr.refl _ _⟩ ?_
  rintro i g w' ⟨k, hk, rfl, ht, e⟩
  refine ite (fun hlt => ?_) (fun hge => ?_)
  · have hka : k < la.length := by omega
    have hkb : k < lb.length := by omega
    refine drawR TBok mixed (fun _ => False) (upF 9 0) (by kernel_rfl) fun w1 e1 _ => ?_
    refine tix (ha.ext (e.t e1)) (x := la[k]) (by simp) fun b1 o1 A1 _ => ?_
    refine tload1 (A1.cell0 rfl) id ?_
    refine tix (hb.ext (e.t e1)) (x := lb[k]) (by simp) fun b2 o2 A2 _ => ?_
    refine tload1 (A2.cell0 rfl) id ?_
    refine tsne (fun hne => ⟨.f (by rintro rfl; exact hne rfl), e.t e1⟩) (fun he => ?_)
    refine rar (by omega) ⟨⟨k + 1, by omega, rfl, ?_, e.t e1⟩, ?_⟩
    · rw [List.take_succ_eq_append_getElem hka, List.take_succ_eq_append_getElem hkb, ht, he]
    · show _ - (k + 1) < _ - k; omega
  · obtain rfl : k = la.length := by omega
    rw [List.take_of_length_le (Nat.le_refl _), List.take_of_length_le (by omega)] at ht
    exact ⟨.t ht, e⟩

theorem r18_SameQuery_sp {wd : Wd} {a b : RQ} {w : World} (ha : QOk wd w a) (hb : QOk wd w b) (hn : (wd a.words).length ≤ 1000000) :
    Sp Try.prog F.r18_SameQuery #[agg a, agg b] w fun v w' => Tells (sameQ wd a b) v ∧ Ext w w' := by
  refine en TBok rfl ?_
  refine rbox fun b1 w1 n1 => rbox fun b2 w2 n2 => ?_
  have A1 : At w2 b1 0 (enc a) := (At.blk n1.blk).ext n2.ext
  have A2 : At w2 b2 0 (enc b) := At.blk n2.blk
  have E := n1.ext.t n2.ext
  refine rload1 (A1.cell 0 rfl) (rload1 (A2.cell 0 rfl) (ite (fun h1 => ?_) (fun h => ⟨.f fun q => h q.1, E⟩)))
  refine rload1 (A1.cell 1 rfl) (rload1 (A2.cell 1 rfl) (ite (fun h2 => ?_) (fun h => ⟨.f fun q => h q.2.1, E⟩)))
  refine rload1 (A1.cell 2 rfl) (rload1 (A2.cell 2 rfl) (ite (fun h3 => ?_) (fun h => ⟨.f fun q => h q.2.2.1, E⟩)))
  refine rload1 (A1.cell 3 rfl) (rload1 (A2.cell 3 rfl) ?_)
  obtain ⟨xa, ca, hxa⟩ := ha.shape
  obtain ⟨xb, cb, hxb⟩ := hb.shape
  rw [hxa, hxb]
  have Sa := ha.ext E
  have Sb := hb.ext E
  unfold QOk at Sa Sb
  rw [hxa] at Sa; rw [hxb] at Sb
  refine rcall (r01_Texts_sp Sa Sb hn) ?_
  rintro v w3 ⟨⟨rfl, h4⟩ | ⟨rfl, h4⟩, e3⟩
  · refine rload1 ((A1.ext e3).cell 4 rfl) (rload1 ((A2.ext e3).cell 4 rfl) (ite (fun h5 => ?_) (fun h => ⟨.f fun q => h q.2.2.2.2.1, E.t e3⟩)))
    refine rload1 ((A1.ext e3).cell 5 rfl) (rload1 ((A2.ext e3).cell 5 rfl) (ite (fun h6 => ?_) (fun h => ⟨.f fun q => h q.2.2.2.2.2, E.t e3⟩)))
    exact ⟨.t ⟨h1, h2, h3, h4, h5, h6⟩, E.t e3⟩
  · exact ⟨.f fun q => h4 q.2.2.2.1, E.t e3⟩

theorem r22_SameRequest_sp {wd : Wd} {a b : RReq} {w : World} (ha : QOk wd w a.q) (hb : QOk wd w b.q) (hn : (wd a.q.words).length ≤ 1000000) :
    Sp Try.prog F.r22_SameRequest #[agg a, agg b] w fun v w' => Tells (sameR wd a b) v ∧ Ext w w' := by
  refine en TBok rfl ?_
  refine rbox fun b1 w1 n1 => rbox fun b2 w2 n2 => ?_
  have A1 : At w2 b1 0 (enc a) := (At.blk n1.blk).ext n2.ext
  have A2 : At w2 b2 0 (enc b) := At.blk n2.blk
  have E := n1.ext.t n2.ext
  refine rload1 (A1.cell 0 rfl) (rload1 (A2.cell 0 rfl) (ite (fun h1 => ?_) (fun h => ⟨.f fun q => h q.1, E⟩)))
  refine rload1 (A1.cell 1 rfl) (rload1 (A2.cell 1 rfl) (ite (fun h2 => ?_) (fun h => ⟨.f fun q => h q.2.1, E⟩)))
  refine rloadA (A1.sub 2 6) rfl (rloadA (A2.sub 2 6) rfl ?_)
  refine rcall (r18_SameQuery_sp (wd := wd) (a := a.q) (b := b.q) (ha.ext E) (hb.ext E) hn) ?_
  rintro v w3 ⟨⟨rfl, h3⟩ | ⟨rfl, h3⟩, e3⟩
  · exact ⟨.t ⟨h1, h2, h3⟩, E.t e3⟩
  · exact ⟨.f fun q => h3 q.2.2, E.t e3⟩

/-- rows of requests -/
def RsOk (wd : Wd) (w : World) (l : List RReq) : Prop := ∀ r ∈ l, QOk wd w r.q ∧ (wd r.q.words).length ≤ 1000000
theorem RsOk.ext {wd : Wd} {w w' : World} {l : List RReq} (h : RsOk wd w l) (e : Ext w w') : RsOk wd w' l := fun r hr => ⟨(h r hr).1.ext e, (h r hr).2⟩
def sameRs (wd : Wd) (a b : List RReq) : Prop := Alike2 (sameR wd) a b

theorem r23_Same_sp {wd : Wd} {a b : Option Addr} {na ca nb cb : Nat} {la lb : List RReq} {w : World} (ha : SlF w (.slice a na ca) la) (hb : SlF w (.slice b nb cb) lb) (oa : RsOk wd w la) (ob : RsOk wd w lb) (hn : la.length ≤ 1000000) :
    Sp Try.prog F.r23_Same #[.slice a na ca, .slice b nb cb] w fun v w' => Tells (sameRs wd la lb) v ∧ Ext w w' := by
  obtain rfl := ha.len
  obtain rfl := hb.len
  refine en TBok rfl ?_
  refine ite (fun h => ⟨.f (fun e => h (by rw [e.1])), Fr.refl _ _⟩) (fun h => ?_)
  have hl : la.length = lb.length := by omega
  refine loop1 TBok 6 [4] 5 (fun i w' => ∃ k : Nat, k ≤ la.length ∧ i = .int .i64 k ∧ sameRs wd (la.take k) (lb.take k) ∧ Ext w w') (fun i _ => la.length - (Go.RowKit.intOf i).toNat) rfl ⟨0, by omega, rfl, Alike2.nil, Fr.refl _ _⟩ ?_
  rintro i g w' ⟨k, hk, rfl, ht, e⟩
  refine ite (fun hlt => ?_) (fun hge => ?_)
  · have hka : k < la.length := by omega
    have hkb : k < lb.length := by omega
    refine drawR TBok mixed (fun _ => False) (upF 10 0) (by kernel_rfl) fun w1 e1 _ => ?_
    refine tix (ha.ext (e.t e1)) (x := la[k]) (by simp) fun b1 o1 A1 _ => ?_
    refine tloadA A1 rfl id ?_
    refine tix (hb.ext (e.t e1)) (x := lb[k]) (by simp) fun b2 o2 A2 _ => ?_
    refine tloadA A2 rfl id ?_
    refine rcall (r22_SameRequest_sp (wd := wd) (a := la[k]) (b := lb[k]) ((oa _ (by simp)).1.ext (e.t e1)) ((ob _ (by simp)).1.ext (e.t e1)) (oa _ (by simp)).2) ?_
    rintro v w2 ⟨⟨rfl, hc⟩ | ⟨rfl, hc⟩, e2⟩
    · refine ⟨e2, rar (by omega) ⟨⟨k + 1, by omega, rfl, ht.take hka hkb hc, (e.t e1).t e2⟩, ?_⟩⟩
      show _ - (k + 1) < _ - k; omega
    · exact ⟨e2, .f fun hs => hc (hs.2 k _ _ (by simp) (by simp)), (e.t e1).t e2⟩
  · obtain rfl : k = la.length := by omega
    rw [List.take_of_length_le (Nat.le_refl _), List.take_of_length_le (by omega)] at ht
    exact ⟨.t ht, e⟩
end Go.W
