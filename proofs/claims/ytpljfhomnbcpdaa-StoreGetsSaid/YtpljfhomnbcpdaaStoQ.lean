/-
  Proved here: stores of the program: asked, told by slots, dropped from (contracts).
  Conditions: the store lies in memory as is said at each.
-/
import Derived.Test.YtpljfhomnbcpdaaStoP
import Derived.Test.YtpljfhomnbcpdaaTabO
namespace Go.W
open Go Go.Proofs
open Enc (enc)
set_option maxRecDepth 10000

theorem store_Get_sp {B b gs size : Nat} {L : List StD} {k : KeyD} {w : World} (S : StoP B w b gs size L) :
    Sp Try.prog F.store_Store_Get #[.pointer (some ⟨b, 0, none⟩), agg k] w fun v w' => v = .tuple #[.int .i64 (getS' L k).1, .bool (getS' L k).2] ∧ Stp w w' := by
  obtain ⟨bt, ta, tc, ts, fa, fc, fr, sc, st, bm, m, ch, H, T, M, C⟩ := S
  refine en TBok rfl ?_
  refine rbx fun bx w1 n1 B1 => ?_
  refine rpnil ?_
  have H1 := H.up (w' := w1)
  refine drawR TBok mixed (fun _ => False) (upF 11 0) (by kernel_rfl) fun w2 e2 _ => ?_
  refine tld (B := H1.cell) rfl not_false ?_
  refine tldG (ds := enc k) (B := B1) rfl rfl not_false ?_
  have G := Get_sp (k := k) (H1.up (w' := w2)).tab
  have q_ := T.get M k
  rcases q_ with ⟨p, y, hm, hp, hy, hyk, hhas⟩ | ⟨hm, hhas⟩
  · have hg : getTS ts k = ((p : Int), true) := by unfold getTS; rw [hm]
    rw [hg] at G
    refine rcall G ?_
    rintro v w3 ⟨rfl, e3⟩
    refine ⟨e3.e, ?_⟩
    have hq : getS' L k = (y.d, true) := by unfold getS'; rw [hhas]
    rw [hq]
    have H3 := H.up (w' := w3)
    refine rld (B := H3.cell) rfl ?_
    refine rixO rfl H3.sts (x := y) hy fun g hg _ A => rload1 (A.cell 3 rfl) ?_
    exact ⟨rfl, stp⟩
  · have hg : getTS ts k = (0, false) := by unfold getTS; rw [hm]
    rw [hg] at G
    refine rcall G ?_
    rintro v w3 ⟨rfl, e3⟩
    refine ⟨e3.e, ?_⟩
    have hq : getS' L k = (0, false) := by unfold getS'; rw [hhas]
    rw [hq]
    exact ⟨rfl, stp⟩
theorem store_Get_nil_sp {k : KeyD} {w : World} : Sp Try.prog F.store_Store_Get #[.pointer none, agg k] w fun v w' => v = .tuple #[.int .i64 0, .bool false] ∧ Stp w w' := by
  refine en TBok rfl ?_
  refine rbx fun bx w1 n1 B1 => ?_
  refine rpnil ?_
  exact ⟨rfl, stp⟩
theorem store_Put_nil_sp {x : StD} {w : World} : Sp Try.prog F.store_Store_Put #[.pointer none, agg x] w fun v w' => v = .int .i64 3 ∧ Stp w w' := by
  refine en TBok rfl ?_
  refine rbx fun bx w1 n1 B1 => ?_
  refine rpnil ?_
  exact ⟨rfl, stp⟩
theorem store_Live_sp {B b gs size : Nat} {L : List StD} {w : World} (S : StoP B w b gs size L) :
    Sp Try.prog F.store_Store_Live #[.pointer (some ⟨b, 0, none⟩)] w fun v w' => v = .int .i64 (L.length : Nat) ∧ Stp w w' := by
  obtain ⟨bt, ta, tc, ts, fa, fc, fr, sc, st, bm, m, ch, H, T, M, C⟩ := S
  refine en TBok rfl ?_
  refine rpnil ?_
  refine rld (B := H.cell) rfl ?_
  refine rcall (Len_sp H.tab) ?_
  rintro v w1 ⟨rfl, e1⟩
  rw [T.len M]
  exact ⟨rfl, stp⟩
theorem store_Free_sp {B b gs size : Nat} {L : List StD} {w : World} (S : StoP B w b gs size L) :
    Sp Try.prog F.store_Store_Free #[.pointer (some ⟨b, 0, none⟩)] w fun v w' => v = .int .i64 ((size - L.length : Nat) : Int) ∧ Stp w w' := by
  obtain ⟨bt, ta, tc, ts, fa, fc, fr, sc, st, bm, m, ch, H, T, M, C⟩ := S
  have h1 := T.len M
  have h2 := T.cnt
  refine en TBok rfl ?_
  refine rpnil ?_
  refine rld (B := H.cell) rfl ?_
  refine ⟨?_, stp⟩
  rw [show size - L.length = fr.length by omega]; rfl
theorem store_Live_nil_sp {w : World} : Sp Try.prog F.store_Store_Live #[.pointer none] w fun v w' => v = .int .i64 0 ∧ Stp w w' := by
  refine en TBok rfl ?_
  refine rpnil ?_
  exact ⟨rfl, stp⟩
theorem store_Free_nil_sp {w : World} : Sp Try.prog F.store_Store_Free #[.pointer none] w fun v w' => v = .int .i64 0 ∧ Stp w w' := by
  refine en TBok rfl ?_
  refine rpnil ?_
  exact ⟨rfl, stp⟩
theorem store_Drop_nil_sp {s : Int} {w : World} : Sp Try.prog F.store_Store_Drop #[.pointer none, .int .i64 s] w fun v w' => v = .int .i64 0 ∧ Stp w w' := by
  refine en TBok rfl ?_
  refine rpnil ?_
  exact ⟨rfl, stp⟩
theorem store_Of_nil_sp {s : Int} {w : World} : Sp Try.prog F.store_Store_Of #[.pointer none, .int .i64 s] w fun v w' => v = .slice none 0 0 ∧ Stp w w' := by
  refine en TBok rfl ?_
  refine rpnil ?_
  exact ⟨rfl, stp⟩

instance : Inhabited StD := ⟨zSt⟩
def cfS (a b : StD) : Int := orI [cmpI a.key.dir b.key.dir, cmpI a.key.v b.key.v]
theorem cfS_neg (a b : StD) : cfS a b < 0 ↔ a.key.dir < b.key.dir ∨ a.key.dir = b.key.dir ∧ a.key.v < b.key.v := by
  unfold cfS
  rw [or_neg, or_neg]
  have := or_nil
  constructor
  · rintro (h | ⟨h, h1 | ⟨_, h2⟩⟩)
    · exact .inl h
    · exact .inr ⟨h, h1⟩
    · exact absurd h2 this
  · rintro (h | ⟨h, h1⟩)
    · exact .inl h
    · exact .inr ⟨h, .inl h1⟩
theorem cfS_swo : Go.Sort.SWO (ltOf cfS) := swo_of (fun a b => a.key.dir < b.key.dir ∨ a.key.dir = b.key.dir ∧ a.key.v < b.key.v) cfS_neg (fun x h => by omega) (fun x y z h k => by omega) (fun x y z h k => by omega)
theorem of_closure_sp {a b : StD} {w : World} : Sp Try.prog F.store_Store_Of_1 #[agg a, agg b] w fun v w' => v = .int .i64 (cfS a b) ∧ Gw w w' := by
  refine en TBok rfl ?_
  refine rbx fun ba w1 n1 B1 => rbx fun bb w2 n2 B2 => ?_
  refine drawRE TBok mixed (fun _ => False) (.one 0 (.one 1 (.one 2 (.one 3 (.one 4 (.one 5 (.one 7 (.one 8 (.one 9 (.one 10 (.one 11 (.one 12 (.one 6 (.one 13 (.one 14 (.one 15 (.one 16 .nil))))))))))))))))) (by kernel_rfl) fun w3 e3 g3 => ?_
  refine tld (B := B1) rfl not_false (tld (B := B2) rfl not_false ?_)
  refine tld (B := B1) rfl not_false (tld (B := B2) rfl not_false ?_)
  refine rcall cmp_Compare_sp ?_
  rintro v w4 ⟨rfl, rfl⟩
  refine ⟨Fr.refl _ _, ?_⟩
  refine rcall cmp_Compare_sp ?_
  rintro v w5 ⟨rfl, rfl⟩
  refine ⟨Fr.refl _ _, ?_⟩
  refine rbsN [cmpI a.key.dir b.key.dir, cmpI a.key.v b.key.v] rfl (vs := [.int .i64 (cmpI a.key.dir b.key.dir), .int .i64 (cmpI a.key.v b.key.v)]) rfl rfl (by decide) fun b7 w7 n7 S7 => ⟨n7.e, ?_⟩
  refine rcall (cmp_Or_sp S7 (by simp)) ?_
  rintro v w8 ⟨rfl, rfl⟩
  refine ⟨Fr.refl _ _, ?_⟩
  exact ⟨rfl, n1.gw.trans (n2.gw.trans (g3.trans n7.gw))⟩
set_option maxHeartbeats 400000 in
theorem store_Of_sp {B b gs size : Nat} {L : List StD} {s : Int} {w : World} (S : StoP B w b gs size L) :
    Sp Try.prog F.store_Store_Of #[.pointer (some ⟨b, 0, none⟩), .int .i64 s] w fun v w' => Own w.heap.size E.api_State w' v (ofS L s) ∧ Stp w w' := by
  obtain ⟨bt, ta, tc, ts, fa, fc, fr, sc, st, bm, m, ch, H, T, M, C⟩ := S
  have hperm := T.of M C s
  have hofl : (ofS L s).length ≤ L.length := List.length_filter_le _ _
  have h1 := T.len M
  have h2 := T.cnt
  have h3 := T.ok.2.1
  have hlen := hperm.length_eq
  rw [List.length_map] at hlen
  have hlk := H.look s
  obtain ⟨hOo, _⟩ := hlk
  refine en TBok rfl ?_
  refine rpnil ?_
  refine rld (B := H.cell) rfl ?_
  refine rlook H.map s rfl ?_
  have q_ : ∃ cv, cv = (getM m s).getD (.slice none 0 0) := ⟨_, rfl⟩
  obtain ⟨cv, hcv⟩ := q_
  rw [← hcv] at hOo ⊢
  have q_ := hOo.shape
  obtain ⟨ca, cc, rfl⟩ := q_
  refine cnt1 TBok 17 [7] 5 17 (ch s).length (fun k v u => Own w.heap.size E.api_State u v (((ch s).take k).map fun n => st.getD n.toNat zSt) ∧ Stp w u) rfl rfl ⟨Own.nil _ _ _, stp⟩ ?_
  rintro k v g u hk ⟨O, e⟩
  refine ite (fun hlt => ?_) (fun hge => ?_)
  · have hka : k < (ch s).length := by omega
    refine rix (hOo.sl.up (w' := u)) (x := (ch s)[k]) (by simp) fun b4 o4 A4 => rload1 (A4.cell0 rfl) ?_
    have hmem := (C s).2 (ch s)[k]
    have q_ := hmem.1 (List.getElem_mem hka)
    obtain ⟨p, hp, _, x, hx, _⟩ := q_
    have Hu := H.up (w' := u)
    refine rld (B := Hu.cell) rfl ?_
    rw [hp]
    refine rixO rfl Hu.sts (x := x) hx fun g hg _ A => rloadA A rfl ?_
    refine rbs1 x rfl rfl (by decide) fun b7 u7 e7 _ S7 => ?_
    refine rapp1 (u := w) ⟨rfl, rfl⟩ (O.up (w' := u7)) S7 (by simp; omega) fun v8 u8 O8 f8 s8 => ?_
    refine rar (by omega) ⟨rfl, hka, ?_, stp⟩
    rw [take_add hka, List.map_append, hp]
    have : ([(p : Int)].map fun n => st.getD n.toNat zSt) = [x] := by simp [hx]
    rw [this]; exact O8
  · have q_ : k = (ch s).length := by omega
    obtain rfl := q_
    rw [List.take_length] at O
    refine rcall (sort_sp Try.sortS (k := 4) (show Agg Try.prog E.api_State 4 from inferInstance) rfl cfS cfS_swo (f := F.slices_SortFunc_State) rfl (fun x y W => of_closure_sp) O (by simp; omega)) ?_
    rintro r u1 ⟨rfl, l', hp, hs, O1, f1⟩
    have s1 : Stw w u u1 := ownD_stw f1
    have hp2 := hp.trans hperm
    have hl' : l' = ofS L s := by
      refine SRis.uniq ?_ (M.ris.sublist (List.filter_sublist ..)) fun x => hp2.mem_iff
      have hnd : l'.Nodup := hp2.nodup_iff.2 (M.ris.nodup.filter _)
      rw [List.nodup_iff_pairwise_ne] at hnd
      refine List.Pairwise.imp_of_mem (fun {a b} ha hb hh => ?_) (hs.and hnd)
      have ha' := List.mem_filter.1 (hp2.mem_iff.1 ha)
      have hb' := List.mem_filter.1 (hp2.mem_iff.1 hb)
      have hsa : a.key.slot = s := by simpa using ha'.2
      have hsb : b.key.slot = s := by simpa using hb'.2
      refine lessK_tri (fun hl => hh.1 ((cfS_neg _ _).2 ?_)) (fun he => hh.2 (M.ris.inj ha'.1 hb'.1 he.symm))
      unfold lessK at hl; omega
    rw [← hl']
    exact ⟨O1, stp⟩

section
variable {B : Nat} {w u : World} {b gs size bt : Nat} {ta : Option Addr} {tc : Nat} {ts ts' : TS} {fa a' : Option Addr} {fc c' : Nat} {fr fr' : List Int} {sc : Nat} {st : List StD} {bm : Nat} {m : List (Int × Value)} {ch : Int → List Int}
/-- the table written -/
theorem StoH.tabd (h : StoH B w b gs size bt ta tc ts fa fc fr sc st bm m ch) (T : TabS B u bt ta tc size ts') (f : FrT B tbE w u) : StoH B u b gs size bt ta tc ts' fa fc fr sc st bm m ch :=
  ⟨h.lo, h.cell.kept f (by decide), T, h.free.kept f (by decide), h.sts.kept f (by decide), h.map.kept f (by decide), fun s v hv => ⟨(h.rows s v hv).1.kept f (by decide), (h.rows s v hv).2⟩, h.empt, h.apart, h.apart2⟩
/-- the pool written -/
theorem StoH.pooled (h : StoH B w b gs size bt ta tc ts fa fc fr sc st bm m ch) {w0 : World} (O : Own w0.heap.size E.int w (.slice a' fr'.length c') fr') (hw0 : ∀ s v, (s, v) ∈ m → ∀ g, Value.blk v = some g → g < w0.heap.size)
    (C : Bk u b [.pointer (some ⟨bt, 0, none⟩), .int .i64 size, .slice a' fr'.length c', .slice (some ⟨gs, 0, none⟩) size sc, .map (some bm)] E.store_Store) (f : Fr (fun i => i = b) w u) : StoH B u b gs size bt ta tc ts a' c' fr' sc st bm m ch ∧ FrT B [E.store_Store] w u := by
  have F : FrT B [E.store_Store] w u := h.cell.wrote f h.lo.1 (by decide)
  refine ⟨⟨h.lo, C, h.tab.kept F (by decide) (by decide), O.y.kept F (by decide), h.sts.kept F (by decide), h.map.kept F (by decide), fun s v hv => ⟨(h.rows s v hv).1.kept F (by decide), (h.rows s v hv).2⟩, h.empt, h.apart, fun hne s v hv g hg hf => ?_⟩, F⟩
  have q_ := O.lt hne
  obtain ⟨g5, h1, h2, _⟩ := q_
  rw [h1] at hf; cases hf
  have := hw0 s v hv _ hg
  omega
theorem StoH.rowlt (h : StoH B w b gs size bt ta tc ts fa fc fr sc st bm m ch) : ∀ s v, (s, v) ∈ m → ∀ g, Value.blk v = some g → g < w.heap.size := fun s v hv g hg => by
  have q_ := h.rows s v hv
  obtain ⟨hO2, hne2⟩ := q_
  have q_ := hO2.lt hne2
  obtain ⟨g', h3, _, h4⟩ := q_
  rw [h3] at hg; cases hg; exact h4
/-- a slot's row taken out -/
theorem StoH.del (h : StoH B w b gs size bt ta tc ts fa fc fr sc st bm m ch) (s : Int) (M : MapL Try.prog E.int u bm (delM s m)) (f : Fr (fun i => i = bm) w u) :
    StoH B u b gs size bt ta tc ts fa fc fr sc st bm (delM s m) (fun s' => if s' = s then [] else ch s') ∧ FrT B [mapK] w u := by
  have F : FrT B [mapK] w u := h.map.wrote f h.lo.2.1 (by decide)
  have hnd := h.map.2
  refine ⟨⟨h.lo, h.cell.kept F (by decide), h.tab.kept F (by decide) (by decide), h.free.kept F (by decide), h.sts.kept F (by decide), M, fun s2 v hv => ?_, fun s2 hs2 => ?_, fun s2 v s3 v3 h2 h3 => ?_, fun hne s2 v hv => ?_⟩, F⟩
  · have hv' := (mem_delM hnd).1 hv
    rw [if_neg hv'.1]
    have := h.rows s2 v hv'.2
    exact ⟨this.1.kept F (by decide), this.2⟩
  · show (if s2 = s then [] else ch s2) = []
    split
    · rfl
    · rename_i hne
      refine h.empt s2 fun hm => hs2 ?_
      have q_ := List.mem_map.1 hm
      obtain ⟨⟨k, v⟩, hk, rfl⟩ := q_
      exact List.mem_map.2 ⟨_, (mem_delM hnd).2 ⟨hne, hk⟩, rfl⟩
  · exact h.apart s2 v s3 v3 ((mem_delM hnd).1 h2).2 ((mem_delM hnd).1 h3).2
  · exact h.apart2 hne s2 v ((mem_delM hnd).1 hv).2
end

set_option maxHeartbeats 1000000 in
theorem store_Drop_sp {B b gs size : Nat} {L : List StD} {s : Int} {w : World} (S : StoP B w b gs size L) :
    Sp Try.prog F.store_Store_Drop #[.pointer (some ⟨b, 0, none⟩), .int .i64 s] w fun v w' => v = .int .i64 ((ofS L s).length : Nat) ∧ StoP B w' b gs size (dropS L s) ∧ FrS gs B w w' := by
  obtain ⟨bt, ta, tc, ts, fa, fc, fr, sc, st, bm, m, ch, H, T, M, C⟩ := S
  have hperm := T.of M C s
  have h1 := T.len M
  have h2 := T.cnt
  have h3 := T.ok.2.1
  have hlen := hperm.length_eq
  rw [List.length_map] at hlen
  have hofl : (ofS L s).length ≤ L.length := List.length_filter_le _ _
  rw [← hlen]
  have hnd := (C s).1
  refine en TBok rfl ?_
  refine rpnil ?_
  refine rld (B := H.cell) rfl ?_
  refine rlook H.map s rfl ?_
  have hlk := H.look s
  obtain ⟨hOo, _⟩ := hlk
  have q_ : ∃ cv, cv = (getM m s).getD (.slice none 0 0) := ⟨_, rfl⟩
  obtain ⟨cv, hcv⟩ := q_
  rw [← hcv] at hOo ⊢
  have q_ := hOo.shape
  obtain ⟨ca, cc, rfl⟩ := q_
  refine cnt TBok 20 [7, 8, 9] 20 (ch s).length (fun k u => ∃ tk fk ck, StoH B u b gs size bt ta tc tk fk ck (fr ++ (ch s).take k) sc st bm m ch ∧ StoT size tk (fr ++ (ch s).take k) st ∧ FrS gs B w u) rfl rfl ⟨ts, fa, fc, by simpa using H, by simpa using T, FrX.refl _ _ _ _⟩ ?_
  rintro k g u hk ⟨tk, fk, ck, Hu, Tu, Fu⟩
  have hlk := Hu.look s
  obtain ⟨hOu, _⟩ := hlk
  rw [← hcv] at hOu
  refine ite (fun hlt => ?_) (fun hge => ?_)
  · have hka : k < (ch s).length := by omega
    have hmem := (C s).2 (ch s)[k]
    have q_ := hmem.1 (List.getElem_mem hka)
    obtain ⟨p, hp, hpf, x, hx, hxs⟩ := q_
    have hpk : (p : Int) ∉ fr ++ (ch s).take k := by
      rw [List.mem_append, not_or]
      refine ⟨hpf, fun h => ?_⟩
      have q_ := List.mem_iff_getElem.1 h
      obtain ⟨j, hj, hjp⟩ := q_
      rw [List.length_take] at hj
      rw [List.getElem_take, ← hp] at hjp
      have := (List.getElem_inj hnd).1 hjp
      omega
    have hfl : (fr ++ (ch s).take k).length ≤ 1000 := by rw [List.length_append, List.length_take]; omega
    refine rix hOu.sl (x := (ch s)[k]) (by simp) fun b4 o4 A4 => rload1 (A4.cell0 rfl) ?_
    rw [hp]
    refine drawR TBok mixed (fun i => i ≠ b ∧ i ≠ gs) [0,1,2,3,4,5,6,7,8,9,10,11,12] (by kernel_rfl) fun u1 e1 _ => ?_
    refine tld (B := Hu.cell) rfl (fun h => h.1 rfl) ?_
    refine tld (B := Hu.cell) rfl (fun h => h.1 rfl) ?_
    have H1 := Hu.up (w' := u1)
    refine tixO rfl H1.sts (x := x) hx fun g1 hg1 _ A1 => ?_
    have hgs : g1 = gs := (Option.some.inj hg1).symm
    refine tloadA (cs := enc x.key) (A1.sub 0 3) rfl (fun h => h.2 hgs) ?_
    refine rcall (Drop_spT (k := x.key) H1.tab) ?_
    rintro v u2 ⟨rfl, T2, f2⟩
    have hSg : ¬ Ty B tbE u1 gs := fun h => by
      have hO := H1.sts
      have := hO.blk (by intro h; rw [h] at hx; simp at hx)
      obtain ⟨g2, cur, e2, _, _, hg2, _⟩ := this
      cases e2
      exact absurd (h.cells hg2) (by decide)
    refine ⟨Fr.mono f2 fun i _ hi => ⟨by rintro rfl; exact absurd (hi.cells H1.cell.h) (by decide), by rintro rfl; exact hSg hi⟩, ?_⟩
    have H2 := H1.tabd T2 f2
    have F2 : FrS gs B w u2 := (Fu.trans (FrX.ext e1.e)).trans (f2.x (Nat.le_refl _) (by decide))
    refine rldG (ds := [.int .i64 (size : Nat), .slice fk (fr ++ (ch s).take k).length ck]) (B := H2.cell) rfl rfl ?_
    refine rcall (pool_Give_sp (sz := (size : Int)) (m := (p : Int)) H2.free.sl (by omega)) ?_
    have hps : p < size := by rw [← T.stl]; exact (List.getElem?_eq_some_iff.1 hx).1
    have hgv : giveP ((size : Int), fr ++ (ch s).take k) (p : Int) = (((size : Int), fr ++ (ch s).take k ++ [(p : Int)]), 0) := by
      unfold giveP; rw [if_pos Tu.ok]; dsimp only; rw [if_neg (by omega), if_neg hpk]
    rw [hgv]
    rintro v u3 ⟨⟨pv, rfl, a5, c5, rfl, O5⟩, e5⟩
    refine ral fun b6 u6 n6 z6 => ?_
    refine rsto (B := z6) (vs := [.int .i64 (size : Nat), .slice a5 (fr ++ (ch s).take k ++ [(p : Int)]).length c5]) rfl rfl rfl (pl_one _ _ _ _) fun u7 B7 f7 _ => ?_
    have s7 : Stp u3 u7 := ⟨Fr.st Le.e f7 fun i hi => by subst hi; exact n6.lo⟩
    clear z6 f7
    refine ite (fun _ => ?_) (fun h => absurd rfl h)
    refine rldG (ds := [.int .i64 (size : Nat), .slice a5 (fr ++ (ch s).take k ++ [(p : Int)]).length c5]) (B := B7) rfl rfl ?_
    have H7 := H2.up (w' := u7)
    refine rsto (B := H7.cell) (vs := [.int .i64 (size : Nat), .slice a5 (fr ++ (ch s).take k ++ [(p : Int)]).length c5]) rfl rfl rfl (pl_one _ _ _ _) fun u8 C8 f8 _ => ?_
    have P8 := H7.pooled (O5.up (w' := u7)) H2.rowlt C8 f8
    obtain ⟨H8, F8⟩ := P8
    have Td := Tu.drop hpk hx
    have htk : fr ++ (ch s).take (k + 1) = fr ++ (ch s).take k ++ [(p : Int)] := by rw [take_add hka, hp, List.append_assoc]
    refine rar (by omega) ⟨rfl, hka, _, a5, c5, by rw [htk]; exact H8, by rw [htk]; exact Td, (F2.trans (FrX.ext Le.e)).trans (F8.x (Nat.le_refl _) (by decide))⟩
  · have q_ : k = (ch s).length := by omega
    obtain rfl := q_
    rw [List.take_length] at Hu Tu
    refine rld (B := Hu.cell) rfl ?_
    refine rdel Hu.map s rfl fun u1 M1 f1 _ => ?_
    have D1 := Hu.del s M1 f1
    obtain ⟨H1, F1⟩ := D1
    have MD := M.drop C s
    exact ⟨rfl, ⟨bt, ta, tc, _, _, _, _, sc, st, bm, _, _, H1, Tu, MD.1, MD.2⟩, Fu.trans (F1.x (Nat.le_refl _) (by decide))⟩
end Go.W
