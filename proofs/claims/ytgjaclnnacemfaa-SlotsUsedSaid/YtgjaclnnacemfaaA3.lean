/-
  Proved here: slots of the program: the places of which something is so, ranged over; Put, Find, Drop, Used (contracts).
  Conditions: the rows can be read, and are no longer than is said at each.
-/
import Derived.Test.YtgjaclnnacemfaaA2
namespace Go.W
open Go Go.Proofs
open Enc (enc)
set_option maxRecDepth 10000

/-- slices.Clone, of whatever elements: what it does when it is told the code -/
theorem Clone_Held_sp {a : Option Addr} {n c : Nat} {l : List RHeld} {w : World} (h : SlF w (.slice a n c) l) (hn : l.length ≤ 100000) :
    Sp Try.prog F.slices_Clone_Held #[.slice a n c] w fun v w' => Own w.heap.size E.api_Held w' v l ∧ Stp w w' := by
  obtain rfl := h.len
  refine en TBok rfl ?_
  refine rsnil (fun h0 => ?_) (fun h0 => ?_)
  · obtain ⟨a', c', hv, hc, hh⟩ := h
    cases hv
    have : l = [] := by rcases hh with h | ⟨b, o, h, _⟩; exact h; rw [h0] at h; cases h
    subst this
    exact ⟨Own.nil _ _ _, stp⟩
  · refine rbs (n := 0) (vs := []) ([] : List RHeld) rfl rfl rfl (by omega) fun b w1 n1 S1 => ?_
    refine rapp (u := w) ⟨rfl, rfl⟩ (Own.nil' w.heap.size E.api_Held w1 _) h.up (by simp; omega) fun v3 w3 O3 f3 s3 => ?_
    rw [List.nil_append] at O3
    exact ⟨O3, stp⟩

theorem free_sp {h : RHeld} {w : World} : Sp Try.prog F.slots_held_free #[agg h] w fun v w' => Tells (h.used = false) v ∧ Stp w w' := by
  refine en TBok rfl ?_
  refine rbx fun b w1 n1 B1 => ?_
  refine rld rfl ?_
  cases hu : h.used
  · exact ⟨.t rfl, stp⟩
  · exact ⟨.f (by simp), stp⟩
theorem used_sp {h : RHeld} {w : World} : Sp Try.prog F.slots_held_used #[agg h] w fun v w' => Tells (h.used = true) v ∧ Stp w w' := by
  refine en TBok rfl ?_
  refine rbx fun b w1 n1 B1 => ?_
  refine rld rfl ?_
  cases hu : h.used
  · exact ⟨.f (by simp), stp⟩
  · exact ⟨.t rfl, stp⟩

/-- what the iterator over places reads -/
structure PlDat (l : List RHeld) (a : Option Addr) (c : Nat) (g : FuncId) (bl bs : Nat) (u : World) : Prop where
  sl : SlF u (.slice a l.length c) l
  l : Bk u bl [.slice a l.length c] E.s_api_Held
  s : u.cell? ⟨bs, 0, none⟩ = some (.func (.func g) #[] #[])
def plXs (p : RHeld → Bool) (l : List RHeld) : List (List Value) := (selN (fun i => p (l.getD i zeroH)) l.length).map fun k : Nat => [.int .i64 k]

theorem places_seq {l : List RHeld} {a : Option Addr} {c : Nat} {g : FuncId} {bl bs : Nat} (hn : l.length ≤ 100000) (p : RHeld → Bool)
    (hg : ∀ h w, Sp Try.prog g #[agg h] w fun v w' => Tells (p h = true) v ∧ Stp w w') :
    SeqOf Try.prog F.slots_places_1 [] [.pointer (some ⟨bl, 0, none⟩), .pointer (some ⟨bs, 0, none⟩)] (PlDat l a c g bl bs) (plXs p l) := by
  refine ⟨fun y J Jx w hJ hJx hD hY h0 => ?_⟩
  refine en TBok rfl ?_
  refine rload1 ((hD 0 w h0).l.at.cell0 rfl) ?_
  refine cnt TBok 8 [4, 5] 8 l.length (fun k u => J (selN (fun i => p (l.getD i zeroH)) k).length u) rfl rfl h0 ?_
  intro k G u hk hj
  have hd := hD _ u hj
  refine ite (fun hlt => ?_) (fun hge => ?_)
  · have hka : k < l.length := by omega
    have hs := selN_succ (fun i => p (l.getD i zeroH)) k
    refine rix hd.sl (x := l[k]) (by simp) fun b2 o2 A2 => ?_
    refine rloadA A2 rfl ?_
    refine ral fun b3 w3 n3 B3 => ?_
    refine rsto (vs := enc l[k]) rfl rfl rfl (Enc.one _) fun w4 B4 f4 _ => ?_
    have s4 : Stw u w3 w4 := f4.one n3.lo
    refine rload1 (by have := Ext.cell (Le.e (a := u) (b := w4)) hd.s; exact this) ?_
    refine rldG rfl rfl ?_
    refine rcall (hg l[k] w4) ?_
    rintro v w5 ⟨⟨rfl, hp⟩ | ⟨rfl, hp⟩, e5⟩
    · have hq : p (l.getD k zeroH) = true := by rw [getD_eq hka]; exact hp
      have hx : (plXs p l)[(selN (fun i => p (l.getD i zeroH)) k).length]? = some [.int .i64 (k : Nat)] := by
        unfold plXs; rw [List.getElem?_map, selN_at (q := fun i => p (l.getD i zeroH)) hka hq]; rfl
      refine ryield rfl rfl rfl rfl (hY _ w5 _ hx (hJ _ _ _ hj (Le.e (a := u) (b := w5)))) ?_
      rintro b u' (⟨rfl, hu'⟩ | ⟨rfl, hu'⟩)
      · refine rar (by omega) ⟨rfl, hka, ?_⟩
        rw [hs, if_pos hq]; simpa using hu'
      · exact .inr hu'
    · have hq : ¬ p (l.getD k zeroH) = true := by rw [getD_eq hka]; exact hp
      refine rar (by omega) ⟨rfl, hka, ?_⟩
      rw [hs, if_neg hq]; exact hJ _ _ _ hj (Le.e (a := u) (b := w5))
  · obtain rfl : k = l.length := by omega
    refine .inl ?_
    unfold plXs; rw [List.length_map]; exact hj

theorem places_sp {a : Option Addr} {n c : Nat} {l : List RHeld} {g : FuncId} {w : World} (h : SlF w (.slice a n c) l) :
    Sp Try.prog F.slots_places #[.slice a n c, .func (.func g) #[] #[]] w fun v w' => (∃ bl bs, v = .func (.func F.slots_places_1) #[] #[.pointer (some ⟨bl, 0, none⟩), .pointer (some ⟨bs, 0, none⟩)] ∧ PlDat l a c g bl bs w') ∧ Stp w w' := by
  obtain rfl := h.len
  refine en TBok rfl ?_
  refine rbx fun b1 w1 n1 B1 => rbx fun b2 w2 n2 B2 => ?_
  exact ⟨⟨b1, b2, rfl, h.up, B1.mv, B2.at.cell0 rfl⟩, stp⟩
theorem PlDat.up {l : List RHeld} {a : Option Addr} {c : Nat} {g : FuncId} {bl bs : Nat} {u u' : World} (h : PlDat l a c g bl bs u) [L : Le u u'] : PlDat l a c g bl bs u' := ⟨h.sl.up, h.l.mv, Ext.cell L.e h.s⟩
theorem PlDat.qt {B : Nat} {l : List RHeld} {a : Option Addr} {c : Nat} {g : FuncId} {bl bs : Nat} {u u' : World} (h : PlDat l a c g bl bs u) (q : Qt B u u') : PlDat l a c g bl bs u' := ⟨h.sl.qt q, h.l.qt q, cell_qt q h.s⟩
theorem plXs_len {p : RHeld → Bool} {l : List RHeld} : ∀ x ∈ plXs p l, x.length = 1 := by
  intro x hx; unfold plXs at hx; obtain ⟨k, _, rfl⟩ := List.mem_map.1 hx; rfl
/-- the first of those that are selected is where it is found first -/
theorem sel0 {p : RHeld → Bool} {l : List RHeld} {k : Nat} (h : (selN (fun i => p (l.getD i zeroH)) l.length)[0]? = some k) : ∃ hk : k < l.length, p l[k] = true ∧ l.findIdx? p = some k := by
  have hm := List.mem_of_getElem? h
  obtain ⟨hk, hp⟩ := selN_mem.1 hm
  rw [getD_eq hk] at hp
  refine ⟨hk, hp, find_some hk hp fun j hj => ?_⟩
  cases hq : p (l[j]'(by omega)) with
  | false => rfl
  | true =>
    have h1 := selN_at (q := fun i => p (l.getD i zeroH)) hk (by simpa [hk] using hp)
    have h2 := selN_at (q := fun i => p (l.getD i zeroH)) (n := k) hj (by simp only [getD_eq (show j < l.length by omega)]; exact hq)
    have hlen := (List.getElem?_eq_some_iff.1 h2).1
    have h3 : (selN (fun i => p (l.getD i zeroH)) l.length)[(selN (fun i => p (l.getD i zeroH)) k).length]? = (selN (fun i => p (l.getD i zeroH)) l.length)[0]? := by rw [h1, h]
    have hnd : (selN (fun i => p (l.getD i zeroH)) l.length).Nodup := (List.nodup_range).filter _
    have hlt := (List.getElem?_eq_some_iff.1 h1).1
    have := (List.getElem?_inj hlt hnd).1 h3
    omega

theorem slots_Put_sp {a : Option Addr} {n c : Nat} {l : List RHeld} {x : RReq} {w : World} (h : SlF w (.slice a n c) l) (hn : l.length ≤ 100000) :
    Sp Try.prog F.slots_Put #[.slice a n c, agg x] w fun v w' => (∃ v', v = .tuple #[.int .i64 (putH l x).1, v', .int .i64 (putH l x).2.2] ∧ Own w.heap.size E.api_Held w' v' (putH l x).2.1) ∧ Stp w w' := by
  obtain rfl := h.len
  refine en TBok rfl ?_
  refine rbx fun b1 w1 n1 B1 => rbx fun b2 w2 n2 B2 => ?_
  refine ral fun b4 w4 n4 B4 => ral fun b5 w5 n5 B5 => ral fun b6 w6 n6 B6 => ?_
  refine rld rfl ?_
  refine rcall (places_sp h.up) ?_
  rintro v w7 ⟨⟨bl, bs, rfl, D7⟩, e7⟩
  have C4 := B4.mv (w := w7); have C5 := B5.mv (w := w7); have C6 := B6.mv (w := w7)
  have hb4 := n4.b; have hs4 := n4.s; have hb5 := n5.b; have hs5 := n5.s; have hb6 := n6.b; have hs6 := n6.s; have z7 := e7.e.size
  refine rrange TBok rfl (gf := F.slots_places_1) (first := []) (cap := [.pointer (some ⟨bl, 0, none⟩), .pointer (some ⟨bs, 0, none⟩)]) rfl rfl
    (places_seq (g := F.slots_held_free) (a := a) (c := c) (bl := bl) (bs := bs) hn (fun h => !h.used) fun h w => by simpa using free_sp (h := h) (w := w)) plXs_len
    (fun i u => i = 0 ∧ Stp w7 u)
    (fun j u => j = .ret ∧ ∃ k v', freeAt l = some k ∧ Bk u b4 [.int .i64 (k : Nat)] E.int ∧ Bk u b5 [v'] E.s_api_Held ∧ Bk u b6 [.int .i64 0] E.api_Errno ∧ Own w.heap.size E.api_Held u v' (l.set k ⟨true, x⟩) ∧ Stp w u)
    ?_ ?_ ?_ ⟨rfl, stp⟩ ?_ ?_ ?_
  · rintro i u u' ⟨hi, s⟩ q; exact ⟨hi, s.qt q⟩
  · rintro j u u' ⟨hj, k, v', h1, h2, h3, h4, h5, h6⟩ q
    exact ⟨hj, k, v', h1, h2.qt q, h3.qt q, h4.qt q, h5.qt q, h6.qt (q.mono (by have := Le.size (a := w) (b := w7); omega))⟩
  · rintro i u ⟨_, s⟩; exact D7.up
  · rintro i y u hx ⟨rfl, s⟩
    unfold plXs at hx
    rw [List.getElem?_map, Option.map_eq_some_iff] at hx
    obtain ⟨k, hk, rfl⟩ := hx
    obtain ⟨hkl, hp, hf⟩ := sel0 (p := fun h => !h.used) hk
    refine ⟨Fr.refl _ _, fun u1 q => ?_⟩
    have s1 : Stp w7 u1 := s.qt q
    refine rld rfl ?_
    refine rcall (Clone_Held_sp h.up hn) ?_
    rintro v2 w8 ⟨O8, e8⟩
    obtain ⟨oa, oc, rfl⟩ := O8.shape
    refine rldG rfl rfl ?_
    refine rbuild (cs := enc (⟨true, x⟩ : RHeld)) rfl ?_
    refine rixO rfl O8 (x := l[k]) (by simp) fun g' hg hgB A => ?_
    refine rstO rfl (⟨true, x⟩ : RHeld) O8 hg hkl rfl fun w9 O9 f9 s9 _ => ?_
    have z8 := s1.e.size
    refine rsto (B := C4) (vs := [.int .i64 (k : Nat)]) rfl rfl rfl (by simp; rfl) fun w10 G4 f10 _ => ?_
    have s10 : Stw w2 w9 w10 := f10.one n4.lo
    have G5 := (C5.mv (w := w9)).fr f10 (by omega)
    have G6 := (C6.mv (w := w9)).fr f10 (by omega)
    refine rsto (vs := [_]) rfl rfl rfl (by simp; rfl) fun w11 H5 f11 _ => ?_
    have s11 : Stw w2 w10 w11 := f11.one (by have := n4.lo (u := w2); omega)
    have H4 := G4.fr f11 (by omega)
    have H6 := G6.fr f11 (by omega)
    refine rsto (vs := [.int .i64 0]) rfl rfl rfl (by simp; rfl) fun w12 I6 f12 _ => ?_
    have s12 : Stw w2 w11 w12 := f12.one (by have := n4.lo (u := w2); omega)
    have I4 := H4.fr f12 (by omega)
    have I5 := H5.fr f12 (by omega)
    refine ⟨⟨rfl, k, _, hf, I4, I5, I6, ?_, stp⟩, fun i => w2.heap.size ≤ i, ?_⟩
    · have P1 := O9.fr f10 (fun b hb hv => by have := blk_lt C4.h; omega)
      have P2 := P1.fr f11 (fun b hb hv => by have := blk_lt C4.h; omega)
      have P3 := P2.fr f12 (fun b hb hv => by have := blk_lt C4.h; omega)
      exact P3.older
    · have E9 : Ext u1 w9 := Le.e
      exact (((Fr.fr E9).trans s10.e).trans s11.e).trans s12.e
  · rintro D u ⟨hi, s⟩ hD hd
    have hno : freeAt l = none := by
      refine find_none fun j hj => ?_
      cases hq : !(l[j].used) with
      | false => rfl
      | true =>
        have := selN_at (q := fun i => !(l.getD i zeroH).used) hj (by simp only [getD_eq hj]; exact hq)
        have h1 := (List.getElem?_eq_some_iff.1 this).1
        have hi' : (selN (fun i => !(l.getD i zeroH).used) l.length).length = 0 := by unfold plXs at hi; rw [List.length_map] at hi; exact hi
        omega
    have hp : putH l x = (0, [], 140) := by unfold putH; rw [hno]
    rw [hp]
    have z8 := s.e.size
    refine rsto (B := C4) (vs := [.int .i64 0]) rfl rfl rfl (by simp; rfl) fun w10 G4 f10 _ => ?_
    have s10 : Stw w2 u w10 := f10.one n4.lo
    have G5 := (C5.mv (w := u)).fr f10 (by omega)
    have G6 := (C6.mv (w := u)).fr f10 (by omega)
    refine rsto (vs := [.slice none 0 0]) rfl rfl rfl (by simp; rfl) fun w11 H5 f11 _ => ?_
    have s11 : Stw w2 w10 w11 := f11.one (by have := n4.lo (u := w2); omega)
    have H4 := G4.fr f11 (by omega)
    have H6 := G6.fr f11 (by omega)
    refine rsto (vs := [.int .i64 140]) rfl rfl rfl (by simp; rfl) fun w12 I6 f12 _ => ?_
    have s12 : Stw w2 w11 w12 := f12.one (by have := n4.lo (u := w2); omega)
    have I4 := H4.fr f12 (by omega)
    have I5 := H5.fr f12 (by omega)
    have hd' := f12.nc _ _ (f11.nc _ _ (f10.nc _ _ hd rfl) rfl) rfl
    refine leave1 hd' fun u' q => ?_
    have J4 := I4.qt (q 0 (by omega)); have J5 := I5.qt (q 0 (by omega)); have J6 := I6.qt (q 0 (by omega))
    refine rres rfl ?_
    refine rres rfl ?_
    refine rres rfl ?_
    have S : Stp w w12 := stp
    exact ⟨⟨_, rfl, Own.nil _ _ _⟩, S.qt (q _ (by have := Le.size (a := w) (b := w7); omega))⟩
  · rintro j D u ⟨rfl, k, v', hf, h4, h5, h6, hO, hS⟩ hD hd
    have hp : putH l x = ((k : Int), l.set k ⟨true, x⟩, 0) := by unfold putH; rw [hf]
    rw [hp]
    refine leave1 hd fun u' q => ?_
    have J4 := h4.qt (q 0 (by omega)); have J5 := h5.qt (q 0 (by omega)); have J6 := h6.qt (q 0 (by omega))
    refine rres rfl ?_
    refine rres rfl ?_
    refine rres rfl ?_
    exact ⟨⟨_, rfl, hO.qt (q 0 (by omega))⟩, hS.qt (q _ (by have := Le.size (a := w) (b := w7); omega))⟩
end Go.W
