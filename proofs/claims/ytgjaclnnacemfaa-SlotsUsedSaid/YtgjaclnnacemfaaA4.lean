/-
  Proved here: slots of the program: Find, Used, Drop (contracts).
  Conditions: the rows can be read, and are no longer than is said at each.
-/
import Derived.Test.YtgjaclnnacemfaaA3
namespace Go.W
open Go Go.Proofs
open Enc (enc)
set_option maxRecDepth 10000

theorem slots_Find_sp {a : Option Addr} {n c : Nat} {l : List RHeld} {id : Int} {w : World} (h : SlF w (.slice a n c) l) (hn : l.length ≤ 100000) :
    Sp Try.prog F.slots_Find #[.slice a n c, .int .i64 id] w fun v w' => v = .tuple #[.int .i64 (findV (foundAt l id)).1, .bool (findV (foundAt l id)).2] ∧ Stp w w' := by
  obtain rfl := h.len
  refine en TBok rfl ?_
  refine rbx fun b1 w1 n1 B1 => rbx fun b2 w2 n2 B2 => ?_
  refine ral fun b4 w4 n4 B4 => ral fun b5 w5 n5 B5 => ?_
  refine rld rfl ?_
  refine rcall (places_sp h.up) ?_
  rintro v w7 ⟨⟨bl, bs, rfl, D7⟩, e7⟩
  have C4 := B4.mv (w := w7); have C5 := B5.mv (w := w7)
  have hb4 := n4.b; have hs4 := n4.s; have hb5 := n5.b; have hs5 := n5.s; have z7 := e7.e.size
  refine rrange TBok rfl (gf := F.slots_places_1) (first := []) (cap := [.pointer (some ⟨bl, 0, none⟩), .pointer (some ⟨bs, 0, none⟩)]) rfl rfl
    (places_seq (g := F.slots_held_used) (a := a) (c := c) (bl := bl) (bs := bs) hn (fun h => h.used) fun h w => used_sp (h := h) (w := w)) plXs_len
    (fun i u => (∀ j k, j < i → (usedAt l l.length)[j]? = some k → ¬ (l.getD k zeroH).r.id = id) ∧ Stp w7 u)
    (fun j u => j = .ret ∧ ∃ k : Nat, foundAt l id = some k ∧ Bk u b4 [.int .i64 k] E.int ∧ Bk u b5 [.bool true] E.bool ∧ Stp w u)
    ?_ ?_ ?_ ⟨by omega, stp⟩ ?_ ?_ ?_
  · rintro i u u' ⟨hi, s⟩ q; exact ⟨hi, s.qt q⟩
  · rintro j u u' ⟨hj, k, h1, h2, h3, h6⟩ q
    exact ⟨hj, k, h1, h2.qt q, h3.qt q, h6.qt (q.mono (by have := Le.size (a := w) (b := w7); omega))⟩
  · rintro i u ⟨_, s⟩; exact D7.up
  · rintro i y u hx ⟨hb, s⟩
    unfold plXs at hx
    rw [List.getElem?_map, Option.map_eq_some_iff] at hx
    obtain ⟨k, hk, rfl⟩ := hx
    obtain ⟨hkl, hu, hi⟩ := sel_idx hk
    simp only [getD_eq hkl] at hu
    refine ⟨Fr.refl _ _, fun u1 q => ?_⟩
    have s1 : Stp w7 u1 := s.qt q
    refine drawR TBRok mixed (fun _ => False) (upF 8 0) (by kernel_rfl) fun u2 e2 _ => ?_
    refine tld rfl (fun h => h) ?_
    refine tix h.up (x := l[k]) (by simp) fun b8 o8 A8 _ => ?_
    refine tload1 (A8.cell 1 rfl) (fun h => h) ?_
    refine tld rfl (fun h => h) ?_
    refine ite (fun he => ?_) (fun hne => ?_)
    · have hf : foundAt l id = some k := find_some hkl (by simp [hu, he]) fun j hj => by
        cases huj : (l[j]'(by omega)).used with
        | false => rfl
        | true =>
          have hq : (fun i => (l.getD i zeroH).used) j = true := by show (l.getD j zeroH).used = true; rw [getD_eq (show j < l.length by omega)]; exact huj
          have h1 := hb (selN (fun i => (l.getD i zeroH).used) j).length j (by rw [hi]; exact sel_pos hj hq) (selN_at (n := l.length) (by omega) hq)
          rw [getD_eq (show j < l.length by omega)] at h1
          simp [h1]
      have s2 : Stp w7 u2 := stp
      refine rsto (B := C4) (vs := [.int .i64 (k : Nat)]) rfl rfl rfl (by simp; rfl) fun w10 G4 f10 _ => ?_
      have s10 : Stw w2 u2 w10 := f10.one n4.lo
      have G5 := (C5.mv (w := u2)).fr f10 (by omega)
      refine rsto (vs := [.bool true]) rfl rfl rfl (by simp; rfl) fun w11 H5 f11 _ => ?_
      have s11 : Stw w2 w10 w11 := f11.one (by have := n4.lo (u := w2); omega)
      exact ⟨⟨rfl, k, hf, G4.fr f11 (by omega), H5, stp⟩, _, ((Fr.fr e2.e).trans (s10.e.trans s11.e) : Fr (fun i => w2.heap.size ≤ i) u1 w11)⟩
    · refine ⟨⟨fun j k' hj hk' => ?_, stp⟩, fun _ => False, e2.e⟩
      rcases Nat.lt_or_ge j i with h' | h'
      · exact hb j k' h' hk'
      · obtain rfl : j = i := by omega
        unfold usedAt at hk'
        rw [hk] at hk'; cases hk'
        rw [getD_eq hkl]; exact hne
  · rintro D u ⟨hi, s⟩ hD hd
    have hno : foundAt l id = none := by
      refine find_none fun j hj => ?_
      cases huj : l[j].used with
      | false => rfl
      | true =>
        have hq : (fun i => (l.getD i zeroH).used) j = true := by show (l.getD j zeroH).used = true; rw [getD_eq hj]; exact huj
        have h0 := selN_at (q := fun i => (l.getD i zeroH).used) (n := l.length) hj hq
        have h1 := hi _ j (by unfold plXs; rw [List.length_map]; exact (List.getElem?_eq_some_iff.1 h0).1) h0
        rw [getD_eq hj] at h1
        simp [h1]
    rw [hno]
    refine rsto (B := C4) (vs := [.int .i64 0]) rfl rfl rfl (by simp; rfl) fun w10 G4 f10 _ => ?_
    have s10 : Stw w2 u w10 := f10.one n4.lo
    have G5 := (C5.mv (w := u)).fr f10 (by omega)
    refine rsto (vs := [.bool false]) rfl rfl rfl (by simp; rfl) fun w11 c5 f11 _ => ?_
    have s11 : Stw w2 w10 w11 := f11.one (by have := n4.lo (u := w2); omega)
    have c4 := G4.fr f11 (by omega)
    have su : Stp w w11 := stp
    have hd' := f11.nc _ _ (f10.nc _ _ hd rfl) rfl
    refine leave1 hd' fun u' q => ?_
    have J4 := c4.qt (q 0 (by omega)); have J5 := c5.qt (q 0 (by omega))
    refine rres rfl ?_
    refine rres rfl ?_
    exact ⟨rfl, su.qt (q _ (by have := Le.size (a := w) (b := w7); omega))⟩
  · rintro j D u ⟨rfl, k, hf, h4, h5, hS⟩ hD hd
    rw [hf]
    refine leave1 hd fun u' q => ?_
    have J4 := h4.qt (q 0 (by omega)); have J5 := h5.qt (q 0 (by omega))
    refine rres rfl ?_
    refine rres rfl ?_
    exact ⟨rfl, hS.qt (q _ (by have := Le.size (a := w) (b := w7); omega))⟩

/-- slices.AppendSeq, of numbers, onto nothing -/
theorem AppendSeq_int_sp {g : FuncId} {first cap : List Value} {Dat : World → Prop} {xs : List Int} {w : World} (hseq : SeqOf Try.prog g first cap Dat (xs.map fun x => [.int .i64 x])) (hD : ∀ u, Ext w u → Dat u) (hn : xs.length ≤ 1000000) :
    Sp Try.prog F.slices_AppendSeq_int #[.slice none 0 0, .func (.func g) first.toArray cap.toArray] w fun v w' => Own w.heap.size E.int w' v xs ∧ Stp w w' := by
  refine en TBok rfl ?_
  refine rbx fun b1 w1 n1 B1 => ?_
  have hb1 := n1.b; have hs1 := n1.s
  refine rrange TBok rfl (gf := g) (first := first) (cap := cap) rfl rfl hseq (by intro x hx; obtain ⟨y, _, rfl⟩ := List.mem_map.1 hx; rfl)
    (fun i u => ∃ v, Bk u b1 [v] E.s_int ∧ Own w.heap.size E.int u v (xs.take i) ∧ Stp w u) (fun _ _ => False) ?_ ?_ ?_ ⟨.slice none 0 0, B1, by rw [List.take_zero]; exact Own.nil _ _ _, stp⟩ ?_ ?_ ?_
  · rintro i u u' ⟨v, h1, h2, h3⟩ q; exact ⟨v, h1.qt q, h2.qt q, h3.qt (q.mono (by omega))⟩
  · rintro c u u' h; exact h.elim
  · rintro i u ⟨v, _, _, s⟩; exact hD u s.e
  · rintro i y u hx ⟨v, c1, O, s⟩
    rw [List.getElem?_map, Option.map_eq_some_iff] at hx
    obtain ⟨x, hx, rfl⟩ := hx
    obtain ⟨hi, rfl⟩ := List.getElem?_eq_some_iff.1 hx
    refine ⟨Fr.refl _ _, fun u1 q => ?_⟩
    have c1 := c1.qt q; have O := O.qt q; have s := s.qt (q.mono (by omega))
    refine rld rfl ?_
    refine rbs1 xs[i] rfl rfl (by decide) fun b4 w4 e4 _ S4 => ?_
    refine rapp1 (u := w) ⟨rfl, rfl⟩ O.up S4 (by simp; omega) fun v5 w5 O5 f5 s5 => ?_
    have c5 := (c1.mv (w := w4)).fro O.up f5 (by decide)
    refine rsto (vs := [v5]) ?_ rfl rfl (by obtain ⟨oa, oc, rfl⟩ := O5.shape; simp; rfl) fun w6 c6 f6 _ => ?_
    · obtain ⟨oa, oc, rfl⟩ := O5.shape; rfl
    have s6 : Stw w w5 w6 := f6.one (by omega)
    refine ⟨⟨v5, c6, ?_, stp⟩, fun i => w.heap.size ≤ i, ((Fr.fr e4.e).trans s5.e).trans s6.e⟩
    rw [take_add hi]; exact O5.frc f6 c5 (by decide)
  · rintro D u ⟨v, c1, O, s⟩ hD' hd
    refine rld rfl ?_
    refine leave1 hd fun u' q => ?_
    rw [List.take_of_length_le (by simp)] at O
    exact ⟨O.qt (q 0 (by omega)), s.qt (q _ (by omega))⟩
  · rintro c D u h; exact h.elim
theorem Collect_int_sp {g : FuncId} {first cap : List Value} {Dat : World → Prop} {xs : List Int} {w : World} (hseq : SeqOf Try.prog g first cap Dat (xs.map fun x => [.int .i64 x])) (hD : ∀ u, Ext w u → Dat u) (hn : xs.length ≤ 1000000) :
    Sp Try.prog F.slices_Collect_int #[.func (.func g) first.toArray cap.toArray] w fun v w' => Own w.heap.size E.int w' v xs ∧ Stp w w' := by
  refine en TBok rfl ?_
  refine rcall (AppendSeq_int_sp hseq hD hn) ?_
  rintro v w1 ⟨O1, e1⟩
  exact ⟨O1, stp⟩
theorem slots_Used_sp {a : Option Addr} {n c : Nat} {l : List RHeld} {w : World} (h : SlF w (.slice a n c) l) (hn : l.length ≤ 100000) :
    Sp Try.prog F.slots_Used #[.slice a n c] w fun v w' => Own w.heap.size E.int w' v (usedH l) ∧ Stp w w' := by
  obtain rfl := h.len
  refine en TBok rfl ?_
  refine rcall (places_sp h) ?_
  rintro v w1 ⟨⟨bl, bs, rfl, D1⟩, e1⟩
  have hs := places_seq (g := F.slots_held_used) (a := a) (c := c) (bl := bl) (bs := bs) hn (fun h => h.used) fun h w => used_sp (h := h) (w := w)
  have he : plXs (fun h => h.used) l = (usedH l).map fun x => [.int .i64 x] := by unfold plXs usedH usedAt; rw [List.map_map]; rfl
  rw [he] at hs
  refine rcall (Collect_int_sp (first := []) hs (fun u eu => by have := Stp.mk eu; exact D1.up) (by unfold usedH usedAt; rw [List.length_map]; have := selN_le (fun i => (l.getD i zeroH).used) l.length; omega)) ?_
  rintro v w2 ⟨O2, e2⟩
  exact ⟨O2.older, stp⟩

theorem slots_Drop_sp {a : Option Addr} {n c : Nat} {l : List RHeld} {i : Int} {w : World} (h : SlF w (.slice a n c) l) (hn : l.length ≤ 100000) :
    Sp Try.prog F.slots_Drop #[.slice a n c, .int .i64 i] w fun v w' => (∃ v', v = .tuple #[v', .int .i64 (dropH l i).2] ∧ Own w.heap.size E.api_Held w' v' (dropH l i).1) ∧ Stp w w' := by
  obtain rfl := h.len
  refine en TBok rfl ?_
  unfold dropH
  refine ite (fun h1 => ?_) (fun h1 => ?_)
  · rw [if_pos (.inl h1)]; exact ⟨⟨_, rfl, Own.nil _ _ _⟩, stp⟩
  refine ite (fun h2 => ?_) (fun h2 => ?_)
  · rw [if_pos (.inr h2)]; exact ⟨⟨_, rfl, Own.nil _ _ _⟩, stp⟩
  rw [if_neg (by omega)]
  obtain ⟨k, rfl⟩ := Int.eq_ofNat_of_zero_le (Int.not_lt.1 h1)
  have hk : k < l.length := by omega
  rw [Int.toNat_natCast, getD_eq hk]
  refine rix h (x := l[k]) (by simp) fun b2 o2 A2 => ?_
  refine rload1 (A2.cell0 rfl) ?_
  cases hu : l[k].used
  · rw [if_neg (by simp)]; exact ⟨⟨_, rfl, Own.nil _ _ _⟩, stp⟩
  · rw [if_pos rfl]
    refine rcall (Clone_Held_sp h hn) ?_
    rintro v w2 ⟨O2, e2⟩
    obtain ⟨oa, oc, rfl⟩ := O2.shape
    refine rbuild (cs := enc zeroH) rfl ?_
    refine rixO rfl O2 (x := l[k]) (by simp) fun g' hg _ A => ?_
    refine rstO rfl zeroH O2 hg hk rfl fun w3 O3 f3 s3 _ => ?_
    exact ⟨⟨_, rfl, O3.older⟩, stp⟩
end Go.W
