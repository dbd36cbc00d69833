/-
  Proved here: heaps of the library, over whatever interface: Push, Pop, Fix, Remove (contracts).
  Conditions: what the interface's methods do, as is said at each.
-/
import Derived.Test.YtgplodgpbhddbaaHeapG
namespace Go.W
open Go Go.Proofs
open Enc (enc)
set_option maxRecDepth 10000

section
variable {t : TypeId} {v : Value} {α : Type} [Inhabited α] {lt : α → α → Bool} {St : List α → World → Prop} {B0 : Nat} {es : List TypeId}
theorem atL_app {l : List α} {y : α} {p : Nat} (h : p < l.length) : atL (l ++ [y]) p = atL l p := by
  unfold atL; simp [List.getElem?_append_left h]
theorem atL_dropLast {l : List α} {p : Nat} (h : p < l.length - 1) : atL l.dropLast p = atL l p := by
  unfold atL; simp only [List.getD_eq_getElem?_getD, List.getElem?_dropLast]; rw [if_pos h]
theorem HeapN.congr {l l' : List α} {n : Nat} (h : HeapN lt l n) (e : ∀ p, p < n → atL l' p = atL l p) : HeapN lt l' n := fun c c0 cn => by
  rw [e c cn, e _ (by omega)]; exact h c c0 cn
theorem HeapN.le {l : List α} {n m : Nat} (h : HeapN lt l n) (e : m ≤ n) : HeapN lt l m := fun c c0 cn => h c c0 (by omega)
theorem Push_sp (H : HeapI Try.prog t v lt St B0 es) {l : List α} {y : α} {x : Value} {w : World} (hS : St l w) (hl : l.length ≤ 99999) (hh : HeapN lt l l.length)
    (hpush : InvS Try.prog t v "Push" [x] w fun _ w' => St (l ++ [y]) w' ∧ FrT B0 es w w') :
    Sp Try.prog F.container_heap_Push #[.iface t v, x] w fun _ w' => (∃ l' : List α, l'.Perm (l ++ [y]) ∧ St l' w' ∧ HeapN lt l' l'.length) ∧ FrT B0 es w w' := by
  refine en TBok rfl ?_
  refine hpush.out rfl rfl rfl rfl ?_
  rintro _ w1 ⟨S1, f1⟩
  refine (H.len _ w1 S1).out rfl rfl rfl rfl ?_
  rintro _ w2 ⟨rfl, S2, f2⟩
  have hlen : (l ++ [y]).length = l.length + 1 := by simp
  refine rarE (y := ((l.length : Nat) : Int)) (by omega) (by omega) ?_
  refine rcall (up_sp H (n := l.length + 1) (j := l.length) S2 (by omega) (by omega) ⟨fun c c0 cn h1 h2 => ?_, fun c c0 cn h1 h2 => by omega⟩ (fun c c0 cn h1 => by omega)) ?_
  · rw [atL_app (by omega), atL_app (by omega)]; exact hh c c0 (by omega)
  rintro _ w3 ⟨⟨l', hp, _, S3, hn⟩, f3⟩
  have hl' := hp.length_eq
  exact ⟨⟨l', hp, S3, by rw [hl', hlen]; exact hn⟩, (f1.trans f2).trans f3⟩

theorem Pop_sp (H : HeapI Try.prog t v lt St B0 es) {RX : α → Value → Prop} (hpop : ∀ l w, St l w → l ≠ [] → InvS Try.prog t v "Pop" [] w fun x w' => RX (atL l (l.length - 1)) x ∧ St l.dropLast w' ∧ FrT B0 es w w') {l : List α} {w : World} (hS : St l w) (hne : l ≠ []) (hh : HeapN lt l l.length) :
    Sp Try.prog F.container_heap_Pop #[.iface t v] w fun x w' => (RX (atL l 0) x ∧ ∃ l' : List α, (atL l 0 :: l').Perm l ∧ St l' w' ∧ HeapN lt l' l'.length) ∧ FrT B0 es w w' := by
  have hsz := H.size l w hS
  have hpos : 0 < l.length := List.length_pos_iff.2 hne
  refine en TBok rfl ?_
  refine (H.len _ w hS).out rfl rfl rfl rfl ?_
  rintro _ w1 ⟨rfl, S1, f1⟩
  have q_ : ∃ n, l.length = n + 1 := ⟨l.length - 1, by omega⟩
  obtain ⟨n, hn⟩ := q_
  refine rarE (y := ((n : Nat) : Int)) (by omega) (by omega) ?_
  refine (H.swap l w1 0 n S1 (by omega) (by omega)).out rfl rfl rfl rfl ?_
  rintro _ w2 ⟨S2, f2⟩
  have hsw := fun p => atL_sw (l := l) (i := 0) (j := n) (p := p) (by omega) (by omega)
  have hx : HeapX lt (swL l 0 n) n 0 := ⟨fun c c0 cn h1 h2 => by
    rw [hsw c, hsw, if_neg (by omega), if_neg h1, if_neg (by omega), if_neg h2]; exact hh c c0 (by omega), fun c c0 cn h1 h2 => by omega⟩
  refine rcall (down_sp H (n := n) (i0 := 0) S2 (by omega) (by rw [swL_len]; omega) hx) ?_
  rintro _ w3 ⟨⟨b, l', rfl, hp, ha, S3, h1, h2⟩, f3⟩
  have hlen : l'.length = n + 1 := by rw [hp.length_eq, swL_len, hn]
  have hn' : HeapN lt l' n := by
    cases b with
    | true => exact h1 rfl
    | false => obtain ⟨rfl, hb⟩ := h2 rfl; exact hx.full (fun h => by omega) hb
  have hlast : atL l' (l'.length - 1) = atL l 0 := by
    rw [hlen, Nat.add_sub_cancel, ha n (Nat.le_refl _), hsw, if_pos rfl]
  refine (hpop l' w3 S3 (by intro e; rw [e] at hlen; simp at hlen)).out rfl rfl rfl rfl ?_
  rintro x w4 ⟨hR, S4, f4⟩
  rw [hlast] at hR
  have hperm : (atL l 0 :: l'.dropLast).Perm l := by
    have hne' : l' ≠ [] := by intro e; rw [e] at hlen; simp at hlen
    have e1 : l'.dropLast ++ [atL l 0] = l' := by
      rw [← hlast, atL_get (by omega), ← List.getLast_eq_getElem hne']; exact List.dropLast_concat_getLast hne'
    have := (List.perm_append_singleton (atL l 0) l'.dropLast).symm
    rw [e1] at this
    exact this.trans (hp.trans (swL_perm (by omega) (by omega)))
  refine ⟨⟨hR, l'.dropLast, hperm, S4, ?_⟩, ((f1.trans f2).trans f3).trans f4⟩
  rw [List.length_dropLast, hlen, Nat.add_sub_cancel]
  exact hn'.congr fun p hp' => atL_dropLast (by omega)

theorem Fix_sp (H : HeapI Try.prog t v lt St B0 es) {l : List α} {i : Nat} {w : World} (hS : St l w) (hi : i < l.length) (hx : HeapX lt l l.length i) :
    Sp Try.prog F.container_heap_Fix #[.iface t v, .int .i64 i] w fun _ w' => (∃ l' : List α, l'.Perm l ∧ St l' w' ∧ HeapN lt l' l'.length) ∧ FrT B0 es w w' := by
  refine en TBok rfl ?_
  refine (H.len _ w hS).out rfl rfl rfl rfl ?_
  rintro _ w1 ⟨rfl, S1, f1⟩
  refine rcall (down_sp H (n := l.length) (i0 := i) S1 (by omega) (Nat.le_refl _) hx) ?_
  rintro _ w2 ⟨⟨b, l', rfl, hp, _, S2, h1, h2⟩, f2⟩
  cases b with
  | true => exact ⟨⟨l', hp, S2, by rw [hp.length_eq]; exact h1 rfl⟩, f1.trans f2⟩
  | false =>
    have h2 := h2 rfl
    obtain ⟨rfl, hb⟩ := h2
    refine rcall (up_sp H (n := l'.length) (j := i) S2 hi (Nat.le_refl _) hx hb) ?_
    rintro _ w3 ⟨⟨l3, hp3, _, S3, hn⟩, f3⟩
    exact ⟨⟨l3, hp3, S3, by rw [hp3.length_eq]; exact hn⟩, (f1.trans f2).trans f3⟩

theorem Remove_sp (H : HeapI Try.prog t v lt St B0 es) {RX : α → Value → Prop} (hpop : ∀ l w, St l w → l ≠ [] → InvS Try.prog t v "Pop" [] w fun x w' => RX (atL l (l.length - 1)) x ∧ St l.dropLast w' ∧ FrT B0 es w w') {l : List α} {i : Nat} {w : World} (hS : St l w) (hi : i < l.length) (hh : HeapN lt l l.length) :
    Sp Try.prog F.container_heap_Remove #[.iface t v, .int .i64 i] w fun x w' => (RX (atL l i) x ∧ ∃ l' : List α, (atL l i :: l').Perm l ∧ St l' w' ∧ HeapN lt l' l'.length) ∧ FrT B0 es w w' := by
  have hsz := H.size l w hS
  -- what is left when the last one goes
  have last : ∀ (l' : List α), l' ≠ [] → (atL l' (l'.length - 1) :: l'.dropLast).Perm l' := fun l' hne' => by
    have e1 : l'.dropLast ++ [atL l' (l'.length - 1)] = l' := by
      have := List.length_pos_iff.2 hne'
      rw [atL_get (by omega), ← List.getLast_eq_getElem hne']; exact List.dropLast_concat_getLast hne'
    have := (List.perm_append_singleton (atL l' (l'.length - 1)) l'.dropLast).symm
    rwa [e1] at this
  refine en TBok rfl ?_
  refine (H.len _ w hS).out rfl rfl rfl rfl ?_
  rintro _ w1 ⟨rfl, S1, f1⟩
  have q_ : ∃ n, l.length = n + 1 := ⟨l.length - 1, by omega⟩
  obtain ⟨n, hn⟩ := q_
  refine rarE (y := ((n : Nat) : Int)) (by omega) (by omega) ?_
  refine ite (fun hni => ?_) (fun hni => ?_)
  · have hin : i < n := by omega
    refine (H.swap l w1 i n S1 (by omega) (by omega)).out rfl rfl rfl rfl ?_
    rintro _ w2 ⟨S2, f2⟩
    have hsw := fun p => atL_sw (l := l) (i := i) (j := n) (p := p) (by omega) (by omega)
    have hx0 := HeapN.x H.ord hh i hi
    have hx : HeapX lt (swL l i n) n i := ⟨fun c c0 cn h1 h2 => by
        rw [hsw c, hsw, if_neg (by omega), if_neg h1, if_neg (by omega), if_neg h2]; exact hx0.1 c c0 (by omega) h1 h2, fun c c0 cn h1 h2 => by
        rw [hsw c, hsw, if_neg (by omega), if_neg (by omega), if_neg (by omega), if_neg (by omega)]; exact hx0.2 c c0 (by omega) h1 h2⟩
    refine rcall (down_sp H (n := n) (i0 := i) S2 (by omega) (by rw [swL_len]; omega) hx) ?_
    rintro _ w3 ⟨⟨b, l', rfl, hp, ha, S3, h1, h2⟩, f3⟩
    have fin : ∀ (l3 : List α) (u x : _) (u' : World), l3.Perm (swL l i n) → (∀ p, n ≤ p → atL l3 p = atL (swL l i n) p) → HeapN lt l3 n → RX (atL l3 (l3.length - 1)) x → St l3.dropLast u' → FrT B0 es w u → FrT B0 es u u' →
        (RX (atL l i) x ∧ ∃ l' : List α, (atL l i :: l').Perm l ∧ St l' u' ∧ HeapN lt l' l'.length) ∧ FrT B0 es w u' := by
      intro l3 u x u' hp3 ha3 hn3 hR S' fu fu'
      have hlen : l3.length = n + 1 := by rw [hp3.length_eq, swL_len, hn]
      have hlast : atL l3 (l3.length - 1) = atL l i := by rw [hlen, Nat.add_sub_cancel, ha3 n (Nat.le_refl _), hsw, if_pos rfl]
      have hpl := last l3 (by intro e; rw [e] at hlen; simp at hlen)
      rw [hlast] at hR hpl
      refine ⟨⟨hR, l3.dropLast, hpl.trans (hp3.trans (swL_perm (by omega) (by omega))), S', ?_⟩, fu.trans fu'⟩
      rw [List.length_dropLast, hlen, Nat.add_sub_cancel]
      exact hn3.congr fun p hp' => atL_dropLast (by omega)
    have hlen : l'.length = n + 1 := by rw [hp.length_eq, swL_len, hn]
    cases b with
    | true =>
      refine (hpop l' w3 S3 (by intro e; rw [e] at hlen; simp at hlen)).out rfl rfl rfl rfl ?_
      rintro x w4 ⟨hR, S4, f4⟩
      exact fin l' w3 x w4 hp ha (h1 rfl) hR S4 ((f1.trans f2).trans f3) f4
    | false =>
      have h2 := h2 rfl
      obtain ⟨rfl, hb⟩ := h2
      refine rcall (up_sp H (n := n) (j := i) S3 hin (by omega) hx hb) ?_
      rintro _ w4 ⟨⟨l4, hp4, ha4, S4, hn4⟩, f4⟩
      have hlen4 : l4.length = n + 1 := by rw [hp4.length_eq, hlen]
      refine (hpop l4 w4 S4 (by intro e; rw [e] at hlen4; simp at hlen4)).out rfl rfl rfl rfl ?_
      rintro x w5 ⟨hR, S5, f5⟩
      exact fin l4 w4 x w5 hp4 ha4 hn4 hR S5 (((f1.trans f2).trans f3).trans f4) f5
  · have q_ : i = n := by omega
    obtain rfl := q_
    refine (hpop l w1 S1 (by rintro rfl; simp at hi)).out rfl rfl rfl rfl ?_
    rintro x w4 ⟨hR, S4, f4⟩
    have hpl := last l (by rintro rfl; simp at hi)
    have e : l.length - 1 = i := by omega
    rw [e] at hR hpl
    refine ⟨⟨hR, l.dropLast, hpl, S4, ?_⟩, f1.trans f4⟩
    rw [List.length_dropLast]
    exact (hh.le (by omega)).congr fun p hp' => atL_dropLast hp'
end
end Go.W
