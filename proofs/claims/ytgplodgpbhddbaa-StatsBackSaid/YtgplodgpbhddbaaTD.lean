/-
  Proved here: the program reads a reply, or throws; the program reads a reply, or throws (the walk); the program reads a reply: what is none is told; the reference reads a reply: what is none is told.
  Conditions: those that each fact names.
-/
import Derived.Test.YtgplodgpbhddbaaTC
namespace Go.W
open Go Go.Proofs
open Enc (enc)
set_option maxRecDepth 10000

/-! reading, told by what is left -/
theorem rdAt_pre {p r : List UInt8} {n : Nat} : RdAt (p ++ r) p.length n ↔ n ≤ 2147483647 ∧ ∃ t, r = numB n ++ t := by
  unfold RdAt; rw [List.drop_left]
abbrev RdrB (w : World) (b : Nat) (p r : List UInt8) : Prop := Bk w b [txt (p ++ r), .int .i64 (p.length : Nat)] E.frame_reader
theorem RdrB.next {w : World} {b n : Nat} {p r t : List UInt8} (e : r = numB n ++ t) (h : Bk w b [txt (p ++ r), .int .i64 ((p.length + (numB n).length : Nat) : Int)] E.frame_reader) : RdrB w b (p ++ numB n) t := by
  unfold RdrB
  rw [List.length_append, List.append_assoc, ← e]
  exact h
theorem rd_number_sp {p r : List UInt8} {b : Nat} {w : World} (B : RdrB w b p r) (hs : p.length + r.length ≤ 1000000000) :
    SpP Try.prog F.frame_reader_number #[.pointer (some ⟨b, 0, none⟩)] w (fun v w' => ∃ (n : Nat) (t : List UInt8), n ≤ 2147483647 ∧ r = numB n ++ t ∧ v = .int .i64 (n : Int) ∧ RdrB w' b (p ++ numB n) t ∧ Fr (fun i => i = b) w w')
      (fun c w' => c = PanF ∧ (∀ (n : Nat) (t : List UInt8), n ≤ 2147483647 → r ≠ numB n ++ t) ∧ Fr (fun i => i = b) w w') :=
  (frame_reader_number_sp B (by rw [List.length_append]; exact hs)).mono
    (fun v w' ⟨n, hr, hv, hB, hf⟩ => by
      have q_ := rdAt_pre.1 hr
      obtain ⟨h1, t, ht⟩ := q_
      exact ⟨n, t, h1, ht, hv, RdrB.next ht hB, hf⟩)
    (fun c w' ⟨hc, hno, hf⟩ => ⟨hc, fun n t h1 ht => hno n (rdAt_pre.2 ⟨h1, t, ht⟩), hf⟩)
theorem rd_most_sp {p r : List UInt8} {b m : Nat} {w : World} (B : RdrB w b p r) (hs : p.length + r.length ≤ 1000000000) (hm : m ≤ 2147483647) :
    SpP Try.prog F.frame_reader_most #[.pointer (some ⟨b, 0, none⟩), .int .i64 (m : Int)] w (fun v w' => ∃ (n : Nat) (t : List UInt8), n ≤ m ∧ r = numB n ++ t ∧ v = .int .i64 (n : Int) ∧ RdrB w' b (p ++ numB n) t ∧ Fr (fun i => i = b) w w')
      (fun c w' => c = PanF ∧ (∀ (n : Nat) (t : List UInt8), n ≤ m → r ≠ numB n ++ t) ∧ Fr (fun i => i = b) w w') :=
  (frame_reader_most_sp B (by rw [List.length_append]; exact hs)).mono
    (fun v w' ⟨n, hr, hn, hv, hB, hf⟩ => by
      have q_ := rdAt_pre.1 hr
      obtain ⟨h1, t, ht⟩ := q_
      exact ⟨n, t, hn, ht, hv, RdrB.next ht hB, hf⟩)
    (fun c w' ⟨hc, hno, hf⟩ => ⟨hc, fun n t h1 ht => hno n (rdAt_pre.2 ⟨by omega, t, ht⟩) h1, hf⟩)

/-! a right reply's bytes, number by number -/
theorem numsB_cons {a : Int} {r : List Int} (h : 0 ≤ a ∧ a ≤ 2147483647) : numsB (a :: r) = numB a.toNat ++ numsB r := by simp [numsB, h]
theorem numsB_nil : numsB [] = [] := rfl
def rest3 (n : Nat) (l : List HitD) : List UInt8 := numB n ++ hitsB l
def rest2 (x : RepD) (l : List HitD) : List UInt8 := if x.code ≠ 0 then [] else numB (if x.a.found then 1 else 0) ++ (numB x.a.num.toNat ++ (numB l.length ++ hitsB l))
theorem encR_ok {x : RepD} {l : List HitD} (h : RepOk x l) : encR x l = numB x.id.toNat ++ (numB x.code.toNat ++ rest2 x l) := by
  unfold encR rest2
  have h1 := h.1; have h2 := h.2.1; have h3 := h.2.2.1; have h4 := h.2.2.2.1
  rw [numsB_cons h1, numsB_cons ⟨h2.1, by omega⟩, numsB_nil, List.append_nil]
  split
  · simp
  · rw [numsB_cons (by split <;> omega), numsB_cons ⟨h3.1, by omega⟩, numsB_cons (by omega), numsB_nil]
    have : (if x.a.found = true then (1 : Int) else 0).toNat = if x.a.found = true then 1 else 0 := by split <;> rfl
    rw [this]
    simp
theorem hitsB_cons {y : HitD} {r : List HitD} (h : HitOk y) : hitsB (y :: r) = numB y.v.toNat ++ (numB y.d.toNat ++ hitsB r) := by
  obtain ⟨h1, h2, h3, h4⟩ := h
  have : hitsB (y :: r) = numsB [y.v, y.d] ++ hitsB r := by simp [hitsB]
  rw [this, numsB_cons (by omega), numsB_cons (by omega), numsB_nil]
  simp
theorem RepOk.congr {x y : RepD} {l : List HitD} (h : RepOk x l) (h1 : x.id = y.id) (h2 : x.code = y.code) (h3 : x.a.found = y.a.found) (h4 : x.a.num = y.a.num) : RepOk y l := by
  unfold RepOk at h ⊢; rw [← h1, ← h2, ← h3, ← h4]; exact h
theorem encR.congr {x y : RepD} {l : List HitD} (h1 : x.id = y.id) (h2 : x.code = y.code) (h3 : x.a.found = y.a.found) (h4 : x.a.num = y.a.num) : encR x l = encR y l := by
  unfold encR; rw [← h1, ← h2, ← h3, ← h4]
/-- what is known of each right reply that the bytes begin with -/
def Kn (s : List UInt8) (k : RepD → List HitD → List UInt8 → Prop) : Prop := ∀ x l t, RepOk x l → s = encR x l ++ t → k x l t
theorem kn1 {s r : List UInt8} {n : Nat} (e : s = numB n ++ r) : Kn s fun x l t => x.id.toNat = n ∧ r = numB x.code.toNat ++ (rest2 x l ++ t) := by
  intro x l t hok he
  rw [encR_ok hok, List.append_assoc, List.append_assoc, e] at he
  exact ⟨(numB_pre he).1.symm, (numB_pre he).2⟩
theorem kn2 {s r r' : List UInt8} {n m : Nat} (h : Kn s fun x l t => x.id.toNat = n ∧ r = numB x.code.toNat ++ (rest2 x l ++ t)) (e : r = numB m ++ r') : Kn s fun x l t => x.id.toNat = n ∧ x.code.toNat = m ∧ r' = rest2 x l ++ t := by
  intro x l t hok he
  have q_ := h x l t hok he
  obtain ⟨h1, h2⟩ := q_
  rw [e] at h2
  exact ⟨h1, (numB_pre h2).1.symm, (numB_pre h2).2⟩
theorem kn3 {s r : List UInt8} {n : Nat} (h : Kn s fun x l t => x.id.toNat = n ∧ x.code.toNat = 0 ∧ r = rest2 x l ++ t) : Kn s fun x l t => x.id.toNat = n ∧ x.code.toNat = 0 ∧ r = numB (if x.a.found then 1 else 0) ++ (numB x.a.num.toNat ++ (numB l.length ++ (hitsB l ++ t))) := by
  intro x l t hok he
  have q_ := h x l t hok he
  obtain ⟨h1, h2, h3⟩ := q_
  refine ⟨h1, h2, ?_⟩
  have : x.code = 0 := by have := hok.2.1.1; omega
  rw [h3]; unfold rest2
  rw [if_neg (by simp [this])]
  simp
theorem kn4 {s r r' : List UInt8} {n m : Nat} (h : Kn s fun x l t => x.id.toNat = n ∧ x.code.toNat = 0 ∧ r = numB (if x.a.found then 1 else 0) ++ (numB x.a.num.toNat ++ (numB l.length ++ (hitsB l ++ t)))) (e : r = numB m ++ r') :
    Kn s fun x l t => x.id.toNat = n ∧ x.code.toNat = 0 ∧ (if x.a.found then 1 else 0) = m ∧ r' = numB x.a.num.toNat ++ (numB l.length ++ (hitsB l ++ t)) := by
  intro x l t hok he
  have q_ := h x l t hok he
  obtain ⟨h1, h2, h3⟩ := q_
  rw [e] at h3
  exact ⟨h1, h2, (numB_pre h3).1.symm, (numB_pre h3).2⟩
theorem kn5 {s r r' : List UInt8} {n f m : Nat} (h : Kn s fun x l t => x.id.toNat = n ∧ x.code.toNat = 0 ∧ (if x.a.found then 1 else 0) = f ∧ r = numB x.a.num.toNat ++ (numB l.length ++ (hitsB l ++ t))) (e : r = numB m ++ r') :
    Kn s fun x l t => x.id.toNat = n ∧ x.code.toNat = 0 ∧ (if x.a.found then 1 else 0) = f ∧ x.a.num.toNat = m ∧ r' = numB l.length ++ (hitsB l ++ t) := by
  intro x l t hok he
  have q_ := h x l t hok he
  obtain ⟨h1, h2, h3, h4⟩ := q_
  rw [e] at h4
  exact ⟨h1, h2, h3, (numB_pre h4).1.symm, (numB_pre h4).2⟩
abbrev KnH (s : List UInt8) (n f m N k : Nat) (hs : List HitD) (r : List UInt8) : Prop :=
  Kn s fun x l t => x.id.toNat = n ∧ x.code.toNat = 0 ∧ (if x.a.found then 1 else 0) = f ∧ x.a.num.toNat = m ∧ l.length = N ∧ l.take k = hs ∧ r = hitsB (l.drop k) ++ t
theorem kn6 {s r r' : List UInt8} {n f m N : Nat} (h : Kn s fun x l t => x.id.toNat = n ∧ x.code.toNat = 0 ∧ (if x.a.found then 1 else 0) = f ∧ x.a.num.toNat = m ∧ r = numB l.length ++ (hitsB l ++ t)) (e : r = numB N ++ r') : KnH s n f m N 0 [] r' := by
  intro x l t hok he
  have q_ := h x l t hok he
  obtain ⟨h1, h2, h3, h4, h5⟩ := q_
  rw [e] at h5
  exact ⟨h1, h2, h3, h4, (numB_pre h5).1.symm, rfl, (numB_pre h5).2⟩
/-- the next hit -/
theorem kn7 {s r : List UInt8} {n f m N k : Nat} {hs : List HitD} (h : KnH s n f m N k hs r) (hk : k < N) :
    Kn s fun x l t => x.id.toNat = n ∧ x.code.toNat = 0 ∧ (if x.a.found then 1 else 0) = f ∧ x.a.num.toNat = m ∧ l.length = N ∧ l.take k = hs ∧ ∃ y, l[k]? = some y ∧ HitOk y ∧ r = numB y.v.toNat ++ (numB y.d.toNat ++ (hitsB (l.drop (k + 1)) ++ t)) := by
  intro x l t hok he
  have q_ := h x l t hok he
  obtain ⟨h1, h2, h3, h4, h5, h6, h7⟩ := q_
  have hkl : k < l.length := by omega
  refine ⟨h1, h2, h3, h4, h5, h6, l[k], List.getElem?_eq_getElem hkl, hok.2.2.2.2.2.2.2 _ (List.getElem_mem hkl), ?_⟩
  rw [h7, List.drop_eq_getElem_cons hkl, hitsB_cons (hok.2.2.2.2.2.2.2 _ (List.getElem_mem hkl))]
  simp
theorem kn8 {s r r1 r2 : List UInt8} {n f m N k v d : Nat} {hs : List HitD} (h : KnH s n f m N k hs r) (hk : k < N) (e1 : r = numB v ++ r1) (e2 : r1 = numB d ++ r2) : KnH s n f m N (k + 1) (hs ++ [⟨v, d⟩]) r2 := by
  intro x l t hok he
  have q_ := kn7 h hk x l t hok he
  obtain ⟨h1, h2, h3, h4, h5, h6, y, hy, ho, h7⟩ := q_
  rw [e1] at h7
  have q_ := numB_pre h7
  obtain ⟨e3, e4⟩ := q_
  rw [e2] at e4
  have q_ := numB_pre e4
  obtain ⟨e5, e6⟩ := q_
  refine ⟨h1, h2, h3, h4, h5, ?_, e6⟩
  have hkl : k < l.length := by omega
  rw [take_add hkl, h6]
  have : l[k] = y := by rw [List.getElem?_eq_getElem hkl] at hy; exact Option.some.inj hy
  rw [this]
  congr 1
  obtain ⟨g1, _, g2, _⟩ := ho
  congr 1
  cases y
  congr 1 <;> simp only at g1 g2 e3 e5 ⊢ <;> omega
end Go.W
namespace Go.W
open Go Go.Proofs
open Enc (enc)
set_option maxRecDepth 10000

theorem rep_one (a b : Int) (c : Bool) (d : Int) (e : Option Addr) (n m : Nat) : ∀ u ∈ [Value.int .i64 a, .int .i64 b, .bool c, .int .i64 d, .slice e n m], u.oneCell' = true := by
  intro u hu; simp at hu; rcases hu with rfl | rfl | rfl | rfl | rfl <;> rfl
theorem sl1 (e : Option Addr) (n m : Nat) : ∀ u ∈ [Value.slice e n m], u.oneCell' = true := by intro u hu; simp at hu; subst hu; rfl
abbrev PartOk (s : List UInt8) (b B : Nat) (w : World) (v : Value) (w' : World) : Prop :=
  ∃ x l t, RepOk x l ∧ s = encR x l ++ t ∧ v = agg x ∧ RdrB w' b (encR x l) t ∧ Own B E.api_Hit w' (.slice x.a.s.a x.a.s.n x.a.s.c) l ∧ Fr (fun i => i = b) w w'
abbrev PartNo (s : List UInt8) (b : Nat) (w : World) (c : List PanicEntry) (w' : World) : Prop := c = PanF ∧ (∀ x l t, RepOk x l → s ≠ encR x l ++ t) ∧ Fr (fun i => i = b) w w'
set_option maxHeartbeats 4000000 in
theorem frame_GetReply_1_sp {s : List UInt8} {b : Nat} {w : World} (B : RdrB w b [] s) (hs : s.length ≤ 1000000) :
    SpP Try.prog F.frame_GetReply_1 #[.pointer (some ⟨b, 0, none⟩)] w (PartOk s b w.heap.size w) (PartNo s b w) := by
  have hb : b < w.heap.size := Bk.lt B
  refine enP TBok rfl ?_
  refine ral fun b2 w1 n1 z1 => ?_
  have hb2 := n1.b; have hs2 := n1.s
  have B1 : RdrB w1 b [] s := B.mv
  refine rcallP (rd_number_sp B1 (by simp; omega)) ?_ ?_
  case' refine_2 =>
    rintro _ u ⟨rfl, hno, f⟩
    refine ⟨rfl, fun x l t hok he => ?_, (Fr.fr (Le.e (a := w) (b := w1))).trans f⟩
    rw [encR_ok hok, List.append_assoc] at he
    exact hno _ _ (by have := hok.1; omega) he
  rintro _ w2 ⟨n0, r1, hn0, e0, rfl, B2, f2⟩
  have K1 := kn1 e0
  have F2 : Fr (fun i => i = b) w w2 := (Fr.fr (Le.e (a := w) (b := w1))).trans f2
  have Z2 := z1.fr f2 (by omega)
  refine rbuild (cs := [.int .i64 (n0 : Int), .int .i64 0, .bool false, .int .i64 0, .slice none 0 0]) rfl ?_
  refine ral fun b3 w3 n3 z3 => ?_
  have hb3 := n3.b; have hs3 := n3.s
  refine rsto (B := z3) (vs := [.int .i64 (n0 : Int), .int .i64 0, .bool false, .int .i64 0, .slice none 0 0]) rfl rfl rfl (rep_one _ _ _ _ _ _ _) fun w4 B4 f4 _ => ?_
  have s4 : Stp w2 w4 := ⟨Fr.st Le.e f4 fun i hi => by subst hi; exact n3.lo⟩
  have z24 := Le.size (a := w2) (b := w4)
  have z02 := F2.size
  have nb3 : ∀ i, i = b3 → w.heap.size ≤ i := by omega
  have nb2 : ∀ i, i = b2 → w.heap.size ≤ i := by omega
  have nbb3 : ¬ b = b3 := by omega
  have nbb3' : ¬ b3 = b := by omega
  have nb23 : ¬ b2 = b3 := by have := f2.size; omega
  have R4 : RdrB w4 b ([] ++ numB n0) r1 := B2.mv
  have Z4 := Z2.mv (w := w4)
  have hl1 : (([] : List UInt8) ++ numB n0).length + r1.length = s.length := by rw [e0]; simp
  refine rcallP (rd_most_sp (m := 1000) R4 (by omega) (by decide)) ?_ ?_
  case' refine_2 =>
    rintro _ u ⟨rfl, hno, f⟩
    refine ⟨rfl, fun x l t hok he => ?_, (F2.trans (Fr.fr (Le.e (a := w2) (b := w4)))).trans f⟩
    have := hok.2.1
    exact hno _ _ (by omega) (K1 x l t hok he).2
  rintro _ w5 ⟨n1', r2, hn1, e1, rfl, B5, f5⟩
  have K2 := kn2 K1 e1
  have C5 := B4.fr f5 (by omega)
  have F5 := (F2.trans (Fr.fr (Le.e (a := w2) (b := w4)))).trans f5
  refine rsto (B := C5) (vs := [.int .i64 (n1' : Int)]) rfl rfl rfl (int_one _) fun w6 C6 f6 _ => ?_
  have F6 : Fr (fun i => i = b) w w6 := Fr.new F5 f6 nb3
  have B6 := Bk.fr B5 f6 nbb3
  have Z6 := (Z4.fr f5 (by omega)).fr f6 (by omega)
  refine rld (B := C6) rfl ?_
  refine ite (fun (hc : (n1' : Int) = 0) => ?_) (fun (hc : ¬ (n1' : Int) = 0) => ?_)
  case' refine_2 =>
    refine rldG (ds := enc (⟨n0, n1', false, 0, none, 0, 0⟩ : RepD)) (B := C6) rfl rfl ?_
    refine rcall (frame_right_sp (x := ⟨n0, n1', false, 0, none, 0, 0⟩) (l := []) (SlF.nil _) (by simp)) ?_
    rintro v w7 ⟨⟨rfl, hok⟩ | ⟨rfl, hok⟩, e7⟩
    · refine rcallP frame_must_sp ?_ ?_
      case' refine_2 =>
        rintro _ u ⟨h, _⟩; cases h
      rintro _ w8 ⟨_, rfl, rfl⟩
      have C8 := C6.mv (w := w8); have Z8 := Z6.mv (w := w8)
      refine rldG (ds := enc (⟨n0, n1', false, 0, none, 0, 0⟩ : RepD)) (B := C8) rfl rfl ?_
      refine rsto (B := Z8) (vs := enc (⟨n0, n1', false, 0, none, 0, 0⟩ : RepD)) rfl rfl rfl (Enc.one _) fun w9 Z9 f9 _ => ?_
      refine rresG rfl ?_
      have he : encR ⟨n0, n1', false, 0, none, 0, 0⟩ [] = [] ++ numB n0 ++ numB n1' := by
        rw [encR_ok hok]
        unfold rest2
        rw [if_pos hc]
        simp
      refine ⟨⟨n0, n1', false, 0, none, 0, 0⟩, [], r2, hok, by rw [he, e0, e1]; simp, rfl, ?_, Own.nil _ _ _, Fr.new (F6.trans (Fr.fr (Le.e (a := w6) (b := w8)))) f9 nb2⟩
      rw [he]
      exact (Bk.mv B6 (w := w8)).fr f9 (by omega)
    · refine rcallP frame_must_sp ?_ ?_
      · rintro _ u ⟨h, _⟩; cases h
      rintro _ u ⟨_, rfl, rfl⟩
      refine ⟨rfl, fun x l t hx he => hok ?_, F6.trans (Fr.fr (Le.e (a := w6) (b := u)))⟩
      have q_ := K2 x l t hx he
      obtain ⟨g1, g2, _⟩ := q_
      have q1 := hx.1; have q2 := hx.2.1
      have q3 := hx.2.2.2.2.1 (by omega)
      rw [q3.2.2] at hx
      exact hx.congr (by show x.id = (n0 : Int); omega) (by show x.code = (n1' : Int); omega) q3.1 q3.2.1
  have hn1z : n1' = 0 := by omega
  subst hn1z
  have K3 := kn3 K2
  have hl2 : ([] ++ numB n0 ++ numB 0).length + r2.length = s.length := by rw [e0, e1]; simp; omega
  refine rcallP (rd_most_sp (m := 1) B6 (by omega) (by decide)) ?_ ?_
  case' refine_2 =>
    rintro _ u ⟨rfl, hno, f⟩
    refine ⟨rfl, fun x l t hok he => ?_, F6.trans f⟩
    exact hno _ _ (by split <;> omega) (K3 x l t hok he).2.2
  rintro _ w7 ⟨n2, r3, hn2, e2, rfl, B7, f7⟩
  have K4 := kn4 K3 e2
  have C7 := C6.fr f7 (by omega); have Z7 := Z6.fr f7 (by omega)
  have F7 := F6.trans f7
  refine ite (fun (hf : (n2 : Int) = 1) => ?pp) (fun (hf : ¬ (n2 : Int) = 1) => ?qq)
  case' pp =>
    obtain ⟨fd, hfd, hfd2⟩ : ∃ fd : Bool, fd = true ∧ ((if fd then 1 else 0) = n2) := ⟨true, rfl, by simp; omega⟩
    refine rsto (B := C7) (vs := [.bool true]) rfl rfl rfl (bool_one _) fun w8 C8 f8 _ => ?_
    rw [← hfd] at C8
    have C8 : Bk w8 b3 [.int .i64 (n0 : Int), .int .i64 0, .bool fd, .int .i64 0, .slice none 0 0] E.api_Reply := C8
  case' qq =>
    obtain ⟨fd, hfd, hfd2⟩ : ∃ fd : Bool, fd = false ∧ ((if fd then 1 else 0) = n2) := ⟨false, rfl, by simp; omega⟩
    refine rsto (B := C7) (vs := [.bool false]) rfl rfl rfl (bool_one _) fun w8 C8 f8 _ => ?_
    rw [← hfd] at C8
    have C8 : Bk w8 b3 [.int .i64 (n0 : Int), .int .i64 0, .bool fd, .int .i64 0, .slice none 0 0] E.api_Reply := C8
  all_goals
    have F8 : Fr (fun i => i = b) w w8 := Fr.new F7 f8 nb3
    have B8 := Bk.fr B7 f8 nbb3
    have Z8 := Z7.fr f8 (by omega)
    have hl3 : ([] ++ numB n0 ++ numB 0 ++ numB n2).length + r3.length = s.length := by rw [e0, e1, e2]; simp; omega
    refine rcallP (rd_number_sp B8 (by omega)) ?_ ?_
    case' refine_2 =>
      rintro _ u ⟨rfl, hno, f⟩
      refine ⟨rfl, fun x l t hok he => ?_, F8.trans f⟩
      exact hno _ _ (by have := hok.2.2.1; omega) (K4 x l t hok he).2.2.2
    rintro _ w9 ⟨n3', r4, hn3, e3, rfl, B9, f9⟩
    have K5 := kn5 K4 e3
    have C9 := C8.fr f9 (by omega); have Z9 := Z8.fr f9 (by omega)
    refine rsto (B := C9) (vs := [.int .i64 (n3' : Int)]) rfl rfl rfl (int_one _) fun w10 C10 f10 _ => ?_
    have C10 : Bk w10 b3 [.int .i64 (n0 : Int), .int .i64 0, .bool fd, .int .i64 (n3' : Int), .slice none 0 0] E.api_Reply := C10
    have F10 : Fr (fun i => i = b) w w10 := Fr.new (F8.trans f9) f10 nb3
    have B10 := Bk.fr B9 f10 nbb3
    have Z10 := Z9.fr f10 (by omega)
    have hl4 : ([] ++ numB n0 ++ numB 0 ++ numB n2 ++ numB n3').length + r4.length = s.length := by rw [e0, e1, e2, e3]; simp; omega
    refine rcallP (rd_most_sp (m := 100) B10 (by omega) (by decide)) ?_ ?_
    case' refine_2 =>
      rintro _ u ⟨rfl, hno, f⟩
      refine ⟨rfl, fun x l t hok he => ?_, F10.trans f⟩
      exact hno _ _ (by have := hok.2.2.2.1; omega) (K5 x l t hok he).2.2.2.2
    rintro _ w11 ⟨N, r5, hN, e4, rfl, B11, f11⟩
    have K6 := kn6 K5 e4
    have C11 := C10.fr f11 (by omega); have Z11 := Z10.fr f11 (by omega)
    have F11 := F10.trans f11
    have q_ : ∃ pre, pre = [] ++ numB n0 ++ numB 0 ++ numB n2 ++ numB n3' ++ numB N := ⟨_, rfl⟩
    obtain ⟨pre, hpre⟩ := q_
    have hs5 : s = pre ++ r5 := by rw [hpre, e0, e1, e2, e3, e4]; simp
    rw [← hpre] at B11
    clear K1 K2 K3 K4 K5 e0 e1 e2 e3 e4 hl1 hl2 hl3 hl4
    refine cnt TBok 26 [4] 25 N (fun k u => ∃ (hs : List HitD) (r : List UInt8) (oa : Option Addr) (oc : Nat), hs.length = k ∧ RdrB u b (pre ++ hitsB hs) r ∧ Bk u b3 [.int .i64 (n0 : Int), .int .i64 0, .bool fd, .int .i64 (n3' : Int), .slice oa hs.length oc] E.api_Reply ∧
        Bk u b2 [.int .i64 0, .int .i64 0, .bool false, .int .i64 0, .slice none 0 0] E.api_Reply ∧ Own w.heap.size E.api_Hit u (.slice oa hs.length oc) hs ∧ Fr (fun i => i = b) w u ∧ s = (pre ++ hitsB hs) ++ r ∧ KnH s n0 n2 n3' N k hs r) rfl rfl
      ⟨[], r5, none, 0, rfl, by simpa [hitsB] using B11, C11, Z11, Own.nil _ _ _, F11, by simpa [hitsB] using hs5, K6⟩ ?_
    rintro k g u hk ⟨hs', r, oa, oc, hlk, Bu, Cu, Zu, Ou, Fu, hsu, Ku⟩
    have zu := Fu.size
    refine ite (fun hlt => ?_) (fun hge => ?_)
    · have hkN : k < N := by omega
      have hll : (pre ++ hitsB hs').length + r.length = s.length := by rw [hsu]; simp; omega
      refine rcallP (rd_number_sp Bu (by omega)) ?_ ?_
      case' refine_2 =>
        rintro _ u' ⟨rfl, hno, f⟩
        refine ⟨rfl, fun x l t hok he => ?_, Fu.trans f⟩
        have q_ := kn7 Ku hkN x l t hok he
        obtain ⟨_, _, _, _, _, _, y, _, hy, hr⟩ := q_
        exact hno _ _ (by have := hy.2.1; have := hy.1; omega) hr
      rintro _ u1 ⟨nv, rv, hnv, ev1, rfl, Bu1, fu1⟩
      have Cu1 := Cu.fr fu1 (by omega); have Zu1 := Zu.fr fu1 (by omega)
      have ob : ∀ g : Nat, w.heap.size ≤ g → Value.blk (.slice oa hs'.length oc) = some g → ¬ g = b := fun g hg _ => by omega
      have Ou1 := Ou.fr fu1 ob
      have Fu1 := Fu.trans fu1
      have hll1 : (pre ++ hitsB hs' ++ numB nv).length + rv.length = s.length := by rw [hsu, ev1]; simp; omega
      have nod : ∀ (w' : World), (∀ (n : Nat) (t : List UInt8), n ≤ 2147483647 → rv ≠ numB n ++ t) → Fr (fun i => i = b) w w' → PartNo s b w PanF w' := fun w' hno f => by
        refine ⟨rfl, fun x l t hok he => ?_, f⟩
        have q_ := kn7 Ku hkN x l t hok he
        obtain ⟨_, _, _, _, _, _, y, _, hy, hr⟩ := q_
        rw [ev1] at hr
        exact hno _ _ (by have := hy.2.2.2; have := hy.2.2.1; omega) (numB_pre hr).2
      refine drawRT TBok mixed (fun i => i = b ∨ i = b3 ∨ ownD w.heap.size (.slice oa hs'.length oc) i) (.one 0 (.one 1 (.one 3 (.one 4 (.duo 2 (.one 5 (.one 6 (.one 7 (.one 8 (.one 9 (.one 10 (.one 11 .nil))))))) 5 (.one 6 (.duo 2 (.one 7 (.one 8 (.one 9 (.one 10 (.one 11 .nil))))) 7 (.lone 2 (.one 8 (.one 9 (.one 10 (.one 11 .nil)))))))))))) (by kernel_rfl) fun u2 es _ => ?_
      have Bu2 := Bk.mv Bu1 (w := u2); have Cu2 := Cu1.mv (w := u2); have Zu2 := Zu1.mv (w := u2)
      have Ou2 := Ou1.up (w' := u2)
      have Fu2 := Fu1.trans (Fr.fr (Le.e (a := u1) (b := u2)))
      refine ⟨?_, ?_⟩
      · refine rld (B := Cu2) rfl ⟨Fr.refl _ _, ?_⟩
        refine rcallP (rd_number_sp Bu2 (by omega)) ?_ fun _ u' ⟨hc, hno, f⟩ => by subst hc; exact panR rfl rfl (nod u' hno (Fu2.trans f))
        rintro _ u3 ⟨nd, rd, hnd, ed, rfl, Bu3, fu3⟩
        refine ⟨fu3.mono fun i _ hi => .inl hi, ?_⟩
        refine tbuild (cs := [.int .i64 (nv : Int), .int .i64 (nd : Int)]) rfl ?_
        refine rbs1 (α := HitD) ⟨nv, nd⟩ rfl rfl (by decide) fun b6 u4 e6 _ S6 => ⟨e6.e.fr, ?_⟩
        have Cu3 := Cu2.fr fu3 (by omega)
        have Ou3 := Ou2.fr fu3 ob
        have Zu3 := Zu2.fr fu3 (by omega)
        have Cu4 := Cu3.mv (w := u4)
        have Ou4 := Ou3.up (w' := u4)
        refine rappB (B := w.heap.size) ⟨rfl, rfl⟩ Ou4 S6 (by have := Fu2.size; have := fu3.size; have := e6.e.size; omega) (by simp; omega) fun v7 u5 O7 f7 => ⟨f7.mono fun i _ hi => .inr (.inr hi), ?_⟩
        have Cu5 := Cu4.fro Ou4 f7 (by decide)
        have Zu5 := (Zu3.mv (w := u4)).fro Ou4 f7 (by decide)
        have Bu5 := (Bk.mv Bu3 (w := u4)).fro Ou4 f7 (by decide)
        have q7 := O7.shape
        obtain ⟨a7, c7, rfl⟩ := q7
        refine rsto (B := Cu5) (vs := [.slice a7 _ c7]) rfl rfl rfl (sl1 _ _ _) fun u6 Cu6 f8 _ => ⟨f8.mono fun i _ hi => .inr (.inl hi), ?_⟩
        have Fu5 : Fr (fun i => i = b) w u5 := Fr.new ((Fu2.trans fu3).trans (Fr.fr e6.e)) f7 fun i hi => hi.1
        refine rar (by omega) ⟨rfl, hkN, hs' ++ [(⟨(nv : Int), (nd : Int)⟩ : HitD)], rd, a7, c7, by simp [hlk], ?_, Cu6, Zu5.fr f8 nb23, O7.frc f8 Cu5 (by decide), Fr.new Fu5 f8 nb3, ?_, kn8 Ku hkN ev1 ed⟩
        · have hb6 := Bu5.fr f8 nbb3
          have : pre ++ hitsB (hs' ++ [(⟨(nv : Int), (nd : Int)⟩ : HitD)]) = pre ++ hitsB hs' ++ numB nv ++ numB nd := by
            have g1 : (nv : Int) ≤ 2147483647 := by omega
            have g2 : (nd : Int) ≤ 2147483647 := by omega
            simp [hitsB, numsB, g1, g2]
          unfold RdrB; rw [this]; exact hb6
        · have g1 : (nv : Int) ≤ 2147483647 := by omega
          have g2 : (nd : Int) ≤ 2147483647 := by omega
          rw [hsu, ev1, ed]
          simp [hitsB, numsB, g1, g2]
      · skip
        refine rcallP (rd_number_sp Bu2 (by omega)) ?_ fun _ u' ⟨hc, hno, f⟩ => by subst hc; exact panR rfl rfl (nod u' hno (Fu2.trans f))
        rintro _ u3 ⟨nd, rd, hnd, ed, rfl, Bu3, fu3⟩
        refine ⟨fu3.mono fun i _ hi => .inl hi, ?_⟩
        refine tbuild (cs := [.int .i64 (nv : Int), .int .i64 (nd : Int)]) rfl ?_
        have Cu3 := Cu2.fr fu3 nbb3'
        refine ⟨?_, ?_⟩
        · refine rld (B := Cu3) rfl ⟨Fr.refl _ _, ?_⟩
          refine rbs1 (α := HitD) ⟨nv, nd⟩ rfl rfl (by decide) fun b6 u4 e6 _ S6 => ⟨e6.e.fr, ?_⟩
          have Cu3 := Cu2.fr fu3 (by omega)
          have Ou3 := Ou2.fr fu3 ob
          have Zu3 := Zu2.fr fu3 (by omega)
          have Cu4 := Cu3.mv (w := u4)
          have Ou4 := Ou3.up (w' := u4)
          refine rappB (B := w.heap.size) ⟨rfl, rfl⟩ Ou4 S6 (by have := Fu2.size; have := fu3.size; have := e6.e.size; omega) (by simp; omega) fun v7 u5 O7 f7 => ⟨f7.mono fun i _ hi => .inr (.inr hi), ?_⟩
          have Cu5 := Cu4.fro Ou4 f7 (by decide)
          have Zu5 := (Zu3.mv (w := u4)).fro Ou4 f7 (by decide)
          have Bu5 := (Bk.mv Bu3 (w := u4)).fro Ou4 f7 (by decide)
          have q7 := O7.shape
          obtain ⟨a7, c7, rfl⟩ := q7
          refine rsto (B := Cu5) (vs := [.slice a7 _ c7]) rfl rfl rfl (sl1 _ _ _) fun u6 Cu6 f8 _ => ⟨f8.mono fun i _ hi => .inr (.inl hi), ?_⟩
          have Fu5 : Fr (fun i => i = b) w u5 := Fr.new ((Fu2.trans fu3).trans (Fr.fr e6.e)) f7 fun i hi => hi.1
          refine rar (by omega) ⟨rfl, hkN, hs' ++ [(⟨(nv : Int), (nd : Int)⟩ : HitD)], rd, a7, c7, by simp [hlk], ?_, Cu6, Zu5.fr f8 nb23, O7.frc f8 Cu5 (by decide), Fr.new Fu5 f8 nb3, ?_, kn8 Ku hkN ev1 ed⟩
          · have hb6 := Bu5.fr f8 nbb3
            have : pre ++ hitsB (hs' ++ [(⟨(nv : Int), (nd : Int)⟩ : HitD)]) = pre ++ hitsB hs' ++ numB nv ++ numB nd := by
              have g1 : (nv : Int) ≤ 2147483647 := by omega
              have g2 : (nd : Int) ≤ 2147483647 := by omega
              simp [hitsB, numsB, g1, g2]
            unfold RdrB; rw [this]; exact hb6
          · have g1 : (nv : Int) ≤ 2147483647 := by omega
            have g2 : (nd : Int) ≤ 2147483647 := by omega
            rw [hsu, ev1, ed]
            simp [hitsB, numsB, g1, g2]
        · skip
          refine rbs1 (α := HitD) ⟨nv, nd⟩ rfl rfl (by decide) fun b6 u4 e6 _ S6 => ⟨e6.e.fr, ?_⟩
          refine rld (B := Cu3) rfl ⟨Fr.refl _ _, ?_⟩
          have Cu3 := Cu2.fr fu3 (by omega)
          have Ou3 := Ou2.fr fu3 ob
          have Zu3 := Zu2.fr fu3 (by omega)
          have Cu4 := Cu3.mv (w := u4)
          have Ou4 := Ou3.up (w' := u4)
          refine rappB (B := w.heap.size) ⟨rfl, rfl⟩ Ou4 S6 (by have := Fu2.size; have := fu3.size; have := e6.e.size; omega) (by simp; omega) fun v7 u5 O7 f7 => ⟨f7.mono fun i _ hi => .inr (.inr hi), ?_⟩
          have Cu5 := Cu4.fro Ou4 f7 (by decide)
          have Zu5 := (Zu3.mv (w := u4)).fro Ou4 f7 (by decide)
          have Bu5 := (Bk.mv Bu3 (w := u4)).fro Ou4 f7 (by decide)
          have q7 := O7.shape
          obtain ⟨a7, c7, rfl⟩ := q7
          refine rsto (B := Cu5) (vs := [.slice a7 _ c7]) rfl rfl rfl (sl1 _ _ _) fun u6 Cu6 f8 _ => ⟨f8.mono fun i _ hi => .inr (.inl hi), ?_⟩
          have Fu5 : Fr (fun i => i = b) w u5 := Fr.new ((Fu2.trans fu3).trans (Fr.fr e6.e)) f7 fun i hi => hi.1
          refine rar (by omega) ⟨rfl, hkN, hs' ++ [(⟨(nv : Int), (nd : Int)⟩ : HitD)], rd, a7, c7, by simp [hlk], ?_, Cu6, Zu5.fr f8 nb23, O7.frc f8 Cu5 (by decide), Fr.new Fu5 f8 nb3, ?_, kn8 Ku hkN ev1 ed⟩
          · have hb6 := Bu5.fr f8 nbb3
            have : pre ++ hitsB (hs' ++ [(⟨(nv : Int), (nd : Int)⟩ : HitD)]) = pre ++ hitsB hs' ++ numB nv ++ numB nd := by
              have g1 : (nv : Int) ≤ 2147483647 := by omega
              have g2 : (nd : Int) ≤ 2147483647 := by omega
              simp [hitsB, numsB, g1, g2]
            unfold RdrB; rw [this]; exact hb6
          · have g1 : (nv : Int) ≤ 2147483647 := by omega
            have g2 : (nd : Int) ≤ 2147483647 := by omega
            rw [hsu, ev1, ed]
            simp [hitsB, numsB, g1, g2]
    · have q_ : k = N := by omega
      obtain rfl := q_
      refine rldG (ds := enc (⟨n0, 0, fd, n3', oa, hs'.length, oc⟩ : RepD)) (B := Cu) rfl rfl ?_
      refine rcall (frame_right_sp (x := ⟨n0, 0, fd, n3', oa, hs'.length, oc⟩) (l := hs') Ou.sl (by omega)) ?_
      rintro v u1 ⟨⟨rfl, hok⟩ | ⟨rfl, hok⟩, eu1⟩
      · refine rcallP frame_must_sp ?_ ?_
        case' refine_2 =>
          rintro _ u ⟨h, _⟩; cases h
        rintro _ u2 ⟨_, rfl, rfl⟩
        have C8 := Cu.mv (w := u2); have Z8 := Zu.mv (w := u2)
        refine rldG (ds := enc (⟨n0, 0, fd, n3', oa, hs'.length, oc⟩ : RepD)) (B := C8) rfl rfl ?_
        refine rsto (B := Z8) (vs := enc (⟨n0, 0, fd, n3', oa, hs'.length, oc⟩ : RepD)) rfl rfl rfl (Enc.one _) fun u3 Z9 f9 _ => ?_
        refine rresG rfl ?_
        have he : encR ⟨n0, 0, fd, n3', oa, hs'.length, oc⟩ hs' = pre ++ hitsB hs' := by
          rw [encR_ok hok]
          unfold rest2
          rw [if_neg (by simp), hpre, hlk]
          dsimp only
          rw [hfd2]
          simp
        refine ⟨⟨n0, 0, fd, n3', oa, hs'.length, oc⟩, hs', r, hok, by rw [he]; exact hsu, rfl, ?_, (Ou.up (w' := u2)).frc f9 Z8 (by decide), Fr.new (Fu.trans (Fr.fr (Le.e (a := u) (b := u2)))) f9 nb2⟩
        rw [he]
        exact (Bk.mv Bu (w := u2)).fr f9 (by omega)
      · refine rcallP frame_must_sp ?_ ?_
        · rintro _ u ⟨h, _⟩; cases h
        rintro _ u2 ⟨_, rfl, rfl⟩
        refine ⟨rfl, fun x l t hx he => hok ?_, Fu.trans (Fr.fr (Le.e (a := u) (b := u2)))⟩
        have q_ := Ku x l t hx he
        obtain ⟨g1, g2, g3, g4, g5, g6, _⟩ := q_
        have q1 := hx.1; have q2 := hx.2.1; have q3 := hx.2.2.1
        rw [List.take_of_length_le (by omega)] at g6
        rw [g6] at hx
        refine hx.congr (by show x.id = (n0 : Int); omega) (by show x.code = 0; omega) ?_ (by show x.a.num = (n3' : Int); omega)
        show x.a.found = fd
        rw [← hfd2] at g3
        generalize x.a.found = q at g3 ⊢
        cases q <;> cases fd <;> simp at g3 ⊢
end Go.W
namespace Go.W
open Go Go.Proofs
open Enc (enc)
set_option maxRecDepth 10000

instance : Conc Try.prog E.api_Errno := ⟨by kernel_rfl⟩
abbrev zRep : RepD := ⟨0, 0, false, 0, none, 0, 0⟩
theorem frame_read_Reply_1_ret {bx be : Nat} {w : World} : SpD Try.prog F.frame_read_Reply_1 #[.pointer (some ⟨bx, 0, none⟩), .pointer (some ⟨be, 0, none⟩)] .returning w fun u' w' => u' = .returning ∧ w' = w := by
  refine SpD.enter TBok rfl rfl rfl rfl rfl rfl rfl (fun _ _ => rfl) rfl rfl ?_
  refine rtaN ?_
  exact ⟨rfl, rfl, rfl⟩
theorem frame_read_Reply_1_pan {bx be : Nat} {x : RepD} {e : Int} {w : World} (Bx : Bk w bx (enc x) E.api_Reply) (Be : Bk w be [.int .i64 e] E.api_Errno) (hne : ¬ be = bx) :
    SpD Try.prog F.frame_read_Reply_1 #[.pointer (some ⟨bx, 0, none⟩), .pointer (some ⟨be, 0, none⟩)] (.panicking PanF) w fun u' w' => settle u' = .returning ∧ Bk w' bx (enc zRep) E.api_Reply ∧ Bk w' be [.int .i64 220] E.api_Errno ∧ Fr (fun i => i = bx ∨ i = be) w w' := by
  refine SpD.enter TBok rfl rfl rfl rfl rfl rfl rfl (fun _ _ => rfl) rfl rfl ?_
  refine rta ?_
  refine ral fun b4 w1 n1 z1 => ?_
  refine rldG (ds := enc zRep) (B := z1) rfl rfl ?_
  refine rsto (B := Bx.mv (w := w1)) (vs := enc zRep) rfl rfl rfl (Enc.one _) fun w2 B2 f2 _ => ?_
  refine rsto (B := (Be.mv (w := w1)).fr f2 hne) (vs := [.int .i64 220]) rfl rfl rfl (int_one _) fun w3 B3 f3 _ => ?_
  exact ⟨rfl, rfl, B2.fr f3 (fun h => hne h.symm), B3, ((Fr.fr (Le.e (a := w) (b := w1))).trans (f2.mono fun i _ hi => .inl hi)).trans (f3.mono fun i _ hi => .inr hi)⟩
theorem encR_pre {x y : RepD} {l m : List HitD} {s t : List UInt8} (hx : RepOk x l) (hy : RepOk y m) (e : encR x l ++ s = encR y m ++ t) : encR x l = encR y m ∧ s = t := by
  have len : ∀ {a b : List UInt8} {s t : List UInt8}, a ++ s = b ++ t → s = t → a = b := fun h h' => by subst h'; exact List.append_cancel_right h
  suffices s = t from ⟨len e this, this⟩
  rw [encR_ok hx, encR_ok hy] at e
  simp only [List.append_assoc] at e
  have q_ := numB_pre e
  obtain ⟨_, e⟩ := q_
  have q_ := numB_pre e
  obtain ⟨h1, e⟩ := q_
  unfold rest2 at e
  have qx := hx.2.1; have qy := hy.2.1
  by_cases hc : x.code = 0
  · have hc' : y.code = 0 := by omega
    simp only [hc, hc', ne_eq, not_true_eq_false, if_false, List.append_assoc] at e
    have q_ := numB_pre e
    obtain ⟨_, e⟩ := q_
    have q_ := numB_pre e
    obtain ⟨_, e⟩ := q_
    have q_ := numB_pre e
    obtain ⟨h2, e⟩ := q_
    have hh : ∀ (l m : List HitD), (∀ h ∈ l, HitOk h) → (∀ h ∈ m, HitOk h) → l.length = m.length → hitsB l ++ s = hitsB m ++ t → s = t := by
      intro l
      induction l with
      | nil =>
        intro m _ _ h e
        cases m with
        | nil => simpa [hitsB] using e
        | cons y r => simp at h
      | cons a r ih =>
        intro m h1 h2 h e
        cases m with
        | nil => simp at h
        | cons b q =>
          rw [hitsB_cons (h1 a List.mem_cons_self), hitsB_cons (h2 b List.mem_cons_self)] at e
          simp only [List.append_assoc] at e
          exact ih q (fun h hh => h1 h (List.mem_cons_of_mem _ hh)) (fun h hh => h2 h (List.mem_cons_of_mem _ hh)) (by simpa using h) (numB_pre (numB_pre e).2).2
    exact hh l m hx.2.2.2.2.2.2.2 hy.2.2.2.2.2.2.2 h2 e
  · have hc' : ¬ y.code = 0 := by omega
    rw [if_pos hc, if_pos hc'] at e
    simpa using e
/-- what GetReply tells -/
abbrev GetRep (s : List UInt8) (B : Nat) (v : Value) (w' : World) : Prop :=
  (∃ x l, RepOk x l ∧ encR x l = s ∧ v = .tuple #[agg x, .int .i64 0] ∧ Own B E.api_Hit w' (.slice x.a.s.a x.a.s.n x.a.s.c) l) ∨ ((∀ x l, RepOk x l → encR x l ≠ s) ∧ v = .tuple #[agg zRep, .int .i64 220])
set_option maxHeartbeats 1000000 in
theorem frame_read_Reply_sp {s : List UInt8} {w : World} (hs : s.length ≤ 1000000) : Sp Try.prog F.frame_read_Reply #[txt s, .func (.func F.frame_GetReply_1) #[] #[]] w fun v w' => GetRep s w.heap.size v w' ∧ Stp w w' := by
  refine en TBok rfl ?_
  refine ral fun bx w1 n1 z1 => ral fun be w2 n2 z2 => ?_
  have hbx := n1.b; have hsx := n1.s; have hbe := n2.b; have hse := n2.s
  refine rbuild (cs := [txt s, .int .i64 0]) rfl ?_
  refine rbx fun br w3 n3 B3 => ?_
  have hbr := n3.b
  have R3 : RdrB w3 br [] s := B3
  clear B3
  have X3 : Bk w3 bx (enc zRep) E.api_Reply := z1.mv
  have E3 : Bk w3 be [.int .i64 0] E.api_Errno := z2.mv
  have z03 := Le.size (a := w) (b := w3)
  have hne : ¬ be = bx := by omega
  have pan : ∀ {G : Nat → Value} {u : World} {x : RepD}, Bk u bx (enc x) E.api_Reply → Bk u be [.int .i64 0] E.api_Errno → Stp w u → (∀ x l, RepOk x l → encR x l ≠ s) → ev G (.tmp 4) = .pointer (some ⟨bx, 0, none⟩) → ev G (.tmp 5) = .pointer (some ⟨be, 0, none⟩) →
      LeaveS Try.prog Try.f125.results.toList G [{ target := .fn (.func F.frame_read_Reply_1) #[.pointer (some ⟨bx, 0, none⟩), .pointer (some ⟨be, 0, none⟩)], args := #[] }] (.panicking PanF) (fun v w' => GetRep s w.heap.size v w' ∧ Stp w w') (fun _ _ => False) u := by
    intro G u x X E' e hno g4 g5
    refine leave_call (by simp) ⟨(frame_read_Reply_1_pan X E' hne).can, callsDIn_mono (frame_read_Reply_1_pan X E' hne).calls ?_⟩
    intro en u' w' he
    cases en with
    | returned v =>
      obtain ⟨h1, X', E', f'⟩ := he
      show LeaveS Try.prog _ _ [] (settle u') _ _ w'
      rw [h1]
      refine leave_ret ?_
      show resS Try.prog [.cell 4 _, .cell 5 _] [] G _ w'
      simp only [resS, g4, g5]
      refine rresG (B := X') rfl ?_
      refine rres (B := E') rfl ?_
      exact ⟨.inr ⟨hno, rfl⟩, ⟨Fr.st e.e f' fun i hi => by omega⟩⟩
    | panicked c => exact he
    | outgrown => exact he
  have nbr : ∀ i, i = br → w.heap.size ≤ i := by omega
  have nbx : ∀ i, i = bx → w.heap.size ≤ i := by omega
  have nxr : ¬ bx = br := by omega
  have ner : ¬ be = br := by omega
  refine rcallP (frame_GetReply_1_sp (b := br) R3 hs) ?_ ?_
  · rintro _ w4 ⟨x, l, t, hok, he, rfl, R4, O4, f4⟩
    have s4 : Stp w w4 := ⟨Fr.st Le.e f4 nbr⟩
    have X4 := X3.fr f4 nxr
    have E4 := E3.fr f4 ner
    refine rsto (B := X4) (vs := enc x) rfl rfl rfl (Enc.one _) fun w5 X5 f5 _ => ?_
    have X5 : Bk w5 bx (enc x) E.api_Reply := X5
    have s5 : Stp w w5 := ⟨Fr.st s4.e f5 nbx⟩
    have E5 := E4.fr f5 hne
    have R5 := (Bk.fr R4 f5 (fun h => nxr h.symm))
    have O5 := O4.frc f5 X4 (by decide)
    refine rcallP (frame_reader_end_sp R5) ?_ ?_
    · rintro _ w6 ⟨rfl, hA, e6⟩
      have ht : t = [] := by
        rw [List.length_append] at hA
        exact List.eq_nil_of_length_eq_zero (by omega)
      subst ht
      rw [List.append_nil] at he
      have X6 := X5.mv (w := w6)
      refine rldG (ds := enc x) (B := X6) rfl (Enc.len x) ?_
      refine rsto (B := X6) (vs := enc x) rfl rfl rfl (Enc.one _) fun w7 X7 f7 _ => ?_
      have X7 : Bk w7 bx (enc x) E.api_Reply := X7
      have s7 : Stp w w7 := ⟨Fr.st Le.e f7 nbx⟩
      have E7 := (E5.mv (w := w6)).fr f7 hne
      have O7 := (O5.up (w' := w6)).frc f7 X6 (by decide)
      refine rsto (B := E7) (vs := [.int .i64 0]) rfl rfl rfl (int_one _) fun w8 E8 f8 _ => ?_
      have X8 := X7.fr f8 (fun h => hne h.symm)
      have s8 : Stp w w8 := ⟨Fr.st s7.e f8 fun i hi => by omega⟩
      have O8 := O7.frc f8 E7 (by decide)
      refine leave_call (by simp) ⟨(frame_read_Reply_1_ret (bx := bx) (be := be) (w := w8)).can, callsDIn_mono (frame_read_Reply_1_ret (bx := bx) (be := be) (w := w8)).calls ?_⟩
      intro en u' w' hh
      cases en with
      | returned v =>
        obtain ⟨rfl, rfl⟩ := hh
        refine leave_ret ?_
        refine rresG (B := X8) rfl ?_
        refine rres (B := E8) rfl ?_
        exact ⟨.inl ⟨x, l, hok, he.symm, rfl, O8.older⟩, s8⟩
      | panicked c => exact hh
      | outgrown => exact hh
    · rintro _ w6 ⟨rfl, hA, e6⟩
      exact pan (X5.mv (w := w6)) (E5.mv (w := w6)) stp (fun y m hy hm => hA (by
        rw [he] at hm
        rw [(encR_pre hok hy (by rw [hm, List.append_nil] : encR x l ++ t = encR y m ++ [])).2]
        simp)) rfl rfl
  · rintro _ w4 ⟨rfl, hno, f4⟩
    have s4 : Stp w w4 := ⟨Fr.st Le.e f4 nbr⟩
    exact pan (X3.fr f4 nxr) (E3.fr f4 ner) s4 (fun y m hy hm => hno y m [] hy (by rw [hm, List.append_nil])) rfl rfl
theorem frame_GetReply_sp {s : List UInt8} {w : World} (hs : s.length ≤ 1000000) : Sp Try.prog F.frame_GetReply #[txt s] w fun v w' => GetRep s w.heap.size v w' ∧ Stp w w' := by
  refine en TBok rfl ?_
  refine ral fun bx w1 n1 z1 => ?_
  have nbx := n1.b
  refine rcall (frame_read_Reply_sp hs) ?_
  rintro v w2 ⟨⟨x, l, hok, he, rfl, O⟩ | ⟨hno, rfl⟩, e2⟩
  · refine rsto (B := z1.mv (w := w2)) (vs := enc x) rfl rfl rfl (Enc.one _) fun w3 X3 f3 _ => ?_
    have X3 : Bk w3 bx (enc x) E.api_Reply := X3
    refine rresG (B := X3) rfl ?_
    exact ⟨.inl ⟨x, l, hok, he, rfl, (O.frc f3 (z1.mv (w := w2)) (by decide)).older⟩, ⟨Fr.st Le.e f3 fun i hi => by omega⟩⟩
  · refine rsto (B := z1.mv (w := w2)) (vs := enc zRep) rfl rfl rfl (Enc.one _) fun w3 X3 f3 _ => ?_
    have X3 : Bk w3 bx (enc zRep) E.api_Reply := X3
    refine rresG (B := X3) rfl ?_
    exact ⟨.inr ⟨hno, rfl⟩, ⟨Fr.st Le.e f3 fun i hi => by omega⟩⟩
end Go.W
namespace Go.W
open Go Go.Proofs
open Enc (enc)
set_option maxRecDepth 10000

abbrev RdC (w : World) (b : Nat) (p r : List UInt8) (bad : Bool) : Prop := Bk w b [txt (p ++ r), .int .i64 (p.length : Nat), .bool bad] E.waysideref22_cut
/-- what a reading of a number makes of it -/
def Cut (p r : List UInt8) (bad : Bool) (n : Nat) (p' r' : List UInt8) (bad' : Bool) : Prop :=
  p' ++ r' = p ++ r ∧ n ≤ 2147483647 ∧ ((r = numB n ++ r' ∧ bad' = bad) ∨ (bad' = true ∧ ∀ (m : Nat) (t : List UInt8), m ≤ 2147483647 → r ≠ numB m ++ t))
theorem cut_number_sp {p r : List UInt8} {bad : Bool} {b : Nat} {w : World} (B : RdC w b p r bad) (hs : p.length + r.length ≤ 1000000000) :
    Sp Try.prog F.r22_cut_number #[.pointer (some ⟨b, 0, none⟩)] w fun v w' => ∃ n p' r' bad', v = .int .i64 ((n : Nat) : Int) ∧ RdC w' b p' r' bad' ∧ Cut p r bad n p' r' bad' ∧ Fr (fun i => i = b) w w' :=
  (r22_cut_number_sp B (by rw [List.length_append]; exact hs)).mono fun v w' ⟨h, f⟩ => by
    rcases h with ⟨A, n, e, hr, rfl, B'⟩ | ⟨hno, rfl, B'⟩
    · have q_ : p.length = A := Int.ofNat_inj.1 e
      obtain rfl := q_
      have q_ := rdAt_pre.1 hr
      obtain ⟨h1, t, rfl⟩ := q_
      refine ⟨n, p ++ numB n, t, bad, rfl, ?_, ⟨by simp, h1, .inl ⟨rfl, rfl⟩⟩, f⟩
      unfold RdC
      rw [List.length_append, List.append_assoc]; exact B'
    · exact ⟨0, p, r, true, rfl, B', ⟨rfl, by decide, .inr ⟨rfl, fun m t h1 ht => hno _ m rfl (rdAt_pre.2 ⟨h1, t, ht⟩)⟩⟩, f⟩
/-- what is known of a right reply, if the bytes are one's -/
def Ks (s : List UInt8) (bad : Bool) (k : RepD → List HitD → Prop) : Prop := ∀ x l, RepOk x l → s = encR x l → bad = false ∧ k x l
theorem Ks.step {s p r p' r' : List UInt8} {bad bad' : Bool} {n : Nat} {k k' : RepD → List HitD → Prop} (h : Ks s bad k) (c : Cut p r bad n p' r' bad') (m : RepD → List HitD → Nat) (t : RepD → List HitD → List UInt8) (hr : ∀ x l, RepOk x l → k x l → r = numB (m x l) ++ t x l ∧ m x l ≤ 2147483647)
    (hk : ∀ x l, RepOk x l → k x l → n = m x l → r' = t x l → k' x l) : Ks s bad' k' := by
  intro x l hok he
  have q_ := h x l hok he
  obtain ⟨h1, h2⟩ := q_
  have q_ := hr x l hok h2
  obtain ⟨h3, h4⟩ := q_
  have q_ := c.2.2
  rcases q_ with ⟨h5, h6⟩ | ⟨_, h6⟩
  · rw [h3] at h5
    exact ⟨h6.trans h1, hk x l hok h2 (numB_pre h5).1.symm (numB_pre h5).2.symm⟩
  · exact (h6 _ _ h4 h3).elim
theorem Ks.mono {s : List UInt8} {bad : Bool} {k k' : RepD → List HitD → Prop} (h : Ks s bad k) (hk : ∀ x l, RepOk x l → k x l → k' x l) : Ks s bad k' := fun x l h1 h2 => ⟨(h x l h1 h2).1, hk x l h1 (h x l h1 h2).2⟩
theorem found_of {n : Nat} {b : Bool} (h : n = if b then 1 else 0) : b = decide (n = 1) := by cases b <;> simp at h <;> simp [h]
set_option maxHeartbeats 4000000 in
theorem r22_GetReply_sp {s : List UInt8} {w : World} (hs : s.length ≤ 1000000) : Sp Try.prog F.r22_GetReply #[txt s] w fun v w' => GetRep s w.heap.size v w' ∧ Stp w w' := by
  refine en TBok rfl ?_
  refine ral fun bz w1 n1 z1 => ?_
  have hbz := n1.b; have hsz := n1.s
  refine rbuild (cs := [txt s, .int .i64 0, .bool false]) rfl ?_
  refine rbx fun br w2 n2 B2 => ?_
  have hbr := n2.b; have hsr := n2.s
  have R2 : RdC w2 br [] s false := B2
  clear B2
  have nbr : ∀ i, i = br → w.heap.size ≤ i := by omega
  have nbz : ∀ i, i = bz → w.heap.size ≤ i := by omega
  have nzr : ¬ bz = br := by omega
  have K0 : Ks s false fun x l => s = numB x.id.toNat ++ (numB x.code.toNat ++ rest2 x l) := fun x l hok he => ⟨rfl, by rw [he, encR_ok hok]⟩
  have Z2 : Bk w2 bz (enc zRep) E.api_Reply := z1.mv
  clear z1
  refine rcall (cut_number_sp R2 (by simp; omega)) ?_
  rintro _ w3 ⟨n0, p3, r3, bad3, rfl, R3, c3, f3⟩
  have K1 : Ks s bad3 fun x l => x.id = (n0 : Int) ∧ r3 = numB x.code.toNat ++ rest2 x l :=
    K0.step c3 (fun x _ => x.id.toNat) (fun x l => numB x.code.toNat ++ rest2 x l) (fun x l hok h => ⟨h, by have := hok.1; omega⟩) fun x l hok _ h1 h2 => ⟨by have := hok.1; omega, h2⟩
  have l3 : p3.length + r3.length = s.length := by have := congrArg List.length c3.1; simpa using this
  have s3 : Stp w w3 := ⟨Fr.st Le.e f3 nbr⟩
  have Z3 := Z2.fr f3 nzr
  refine rcall (cut_number_sp R3 (by omega)) ?_
  rintro _ w4 ⟨n1', p4, r4, bad4, rfl, R4, c4, f4⟩
  have K2 : Ks s bad4 fun x l => x.id = (n0 : Int) ∧ x.code = (n1' : Int) ∧ r4 = rest2 x l :=
    K1.step c4 (fun x _ => x.code.toNat) (fun x l => rest2 x l) (fun x l hok h => ⟨h.2, by have := hok.2.1; omega⟩) fun x l hok h h1 h2 => ⟨h.1, by have := hok.2.1; omega, h2⟩
  have l4 : p4.length + r4.length = s.length := by have := congrArg List.length c4.1; simp only [List.length_append] at this; omega
  have s4 : Stp w w4 := ⟨Fr.st s3.e f4 nbr⟩
  have Z4 := Z3.fr f4 nzr
  refine rbuild (cs := [.int .i64 (n0 : Int), .int .i64 (n1' : Int), .bool false, .int .i64 0, .slice none 0 0]) rfl ?_
  refine ral fun bx w5 n5 z5 => ?_
  have hbx := n5.b
  have z04 := s4.e.size
  have nbx : ∀ i, i = bx → w.heap.size ≤ i := by omega
  have zr := Bk.lt R4; have zz := Z4.lt
  have nxr : ¬ bx = br := by omega
  have nrx : ¬ br = bx := by omega
  have nzx : ¬ bz = bx := by omega
  refine rsto (B := z5) (vs := [.int .i64 (n0 : Int), .int .i64 (n1' : Int), .bool false, .int .i64 0, .slice none 0 0]) rfl rfl rfl (rep_one _ _ _ _ _ _ _) fun w6 X6 f6 _ => ?_
  have X6 : Bk w6 bx [.int .i64 (n0 : Int), .int .i64 (n1' : Int), .bool false, .int .i64 0, .slice none 0 0] E.api_Reply := X6
  clear z5
  have s46 : Stp w4 w6 := ⟨Fr.st Le.e f6 fun i hi => by subst hi; exact n5.lo⟩
  have s6 : Stp w w6 := ⟨Le.e (a := w) (b := w6)⟩
  have R6 := Bk.mv R4 (w := w6); have Z6 := Z4.mv (w := w6)
  refine ite (fun (hc : (n1' : Int) = 0) => ?_) (fun (hc : ¬ (n1' : Int) = 0) => ?_)
  case' refine_2 =>
    have q_ : ∃ xx : RepD, xx = ⟨n0, n1', false, 0, none, 0, 0⟩ := ⟨_, rfl⟩
    obtain ⟨xx, hxx⟩ := q_
    have q_ : ∃ hh : List HitD, hh = [] := ⟨_, rfl⟩
    obtain ⟨hh, hhh⟩ := q_
    have q_ : ∃ q, q = bad4 := ⟨_, rfl⟩
    obtain ⟨badd, hbadd⟩ := q_
    have XX : Bk w6 bx (enc xx) E.api_Reply := by rw [hxx]; exact X6
    have ZZ := Z6
    have RR : RdC w6 br p4 r4 badd := by rw [hbadd]; exact R6
    have OO : Own w.heap.size E.api_Hit w6 (.slice xx.a.s.a xx.a.s.n xx.a.s.c) hh := by rw [hxx, hhh]; exact Own.nil _ _ _
    have hlh : hh.length ≤ 1000000 := by rw [hhh]; simp
    have KK : Ks s badd fun x l => encR x l = encR xx hh ∧ RepOk xx hh := by
      rw [hbadd]
      refine K2.mono fun x l hok h => ?_
      have q := hok.2.2.2.2.1 (by omega)
      rw [hxx, hhh, ← q.2.2]
      exact ⟨encR.congr h.1 h.2.1 q.1 q.2.1, hok.congr h.1 h.2.1 q.1 q.2.1⟩
    -- the end: X: the block; hs: the hits; K: what is known
    refine rldG (ds := enc xx) (B := XX) rfl rfl ?_
    refine rcall (r22_PutReply_sp (x := xx) (l := hh) OO.sl hlh) ?_
    rintro _ v1 ⟨⟨hok, rfl⟩ | ⟨hok, rfl⟩, ev1⟩
    · refine rld (B := RR) rfl ?_
      have XX1 := XX.mv (w := v1); have ZZ1 := ZZ.mv (w := v1)
      cases badd
      · refine ite (fun h => absurd rfl h) (fun _ => ?_)
        refine rsne (fun hne => ?_) (fun heq => ?_)
        · refine rbuild (cs := enc zRep) rfl ?_
          refine rsto (B := ZZ1) (vs := enc zRep) rfl rfl rfl (Enc.one _) fun v2 Z9 f9 _ => ?_
          have Z9 : Bk v2 bz (enc zRep) E.api_Reply := Z9
          refine rresG (B := Z9) rfl ?_
          exact ⟨.inr ⟨fun x l hx he => hne (by obtain ⟨_, h1, h2⟩ := KK x l hx he.symm; rw [← he, h1]), rfl⟩, ⟨Fr.st Le.e f9 nbz⟩⟩
        · refine rldG (ds := enc xx) (B := XX1) rfl rfl ?_
          refine rsto (B := ZZ1) (vs := enc xx) rfl rfl rfl (Enc.one _) fun v2 Z9 f9 _ => ?_
          have Z9 : Bk v2 bz (enc xx) E.api_Reply := Z9
          refine rresG (B := Z9) rfl ?_
          have he : encR xx hh = s := by
            have := congrArg (fun b : ByteArray => b.data.toList) heq
            simpa using this
          exact ⟨.inl ⟨xx, hh, hok, he, rfl, (OO.up (w' := v1)).frc f9 ZZ1 (by decide)⟩, ⟨Fr.st Le.e f9 nbz⟩⟩
      · refine rbuild (cs := enc zRep) rfl ?_
        refine rsto (B := ZZ1) (vs := enc zRep) rfl rfl rfl (Enc.one _) fun v2 Z9 f9 _ => ?_
        have Z9 : Bk v2 bz (enc zRep) E.api_Reply := Z9
        refine rresG (B := Z9) rfl ?_
        exact ⟨.inr ⟨fun x l hx he => (by obtain ⟨h0, _⟩ := KK x l hx he.symm; cases h0), rfl⟩, ⟨Fr.st Le.e f9 nbz⟩⟩
    · refine rld (B := RR) rfl ?_
      have ZZ1 := ZZ.mv (w := v1)
      cases badd
      case' false => refine ite (fun _ => ?_) (fun h => absurd (by decide) h)
      all_goals
        refine rbuild (cs := enc zRep) rfl ?_
        refine rsto (B := ZZ1) (vs := enc zRep) rfl rfl rfl (Enc.one _) fun v2 Z9 f9 _ => ?_
        have Z9 : Bk v2 bz (enc zRep) E.api_Reply := Z9
        refine rresG (B := Z9) rfl ?_
        exact ⟨.inr ⟨fun x l hx he => (by obtain ⟨_, _, h2⟩ := KK x l hx he.symm; exact hok h2), rfl⟩, ⟨Fr.st Le.e f9 nbz⟩⟩
  have hn1z : n1' = 0 := by omega
  subst hn1z
  have K3 : Ks s bad4 fun x l => x.id = (n0 : Int) ∧ x.code = 0 ∧ r4 = numB (if x.a.found then 1 else 0) ++ (numB x.a.num.toNat ++ (numB l.length ++ hitsB l)) := by
    refine K2.mono fun x l hok h => ⟨h.1, h.2.1, ?_⟩
    have : x.code = 0 := h.2.1
    rw [h.2.2]; unfold rest2
    rw [if_neg (by simp [this])]
  refine rcall (cut_number_sp R6 (by omega)) ?_
  rintro _ w7 ⟨n2, p7, r7, bad7, rfl, R7, c7, f7⟩
  have K4 : Ks s bad7 fun x l => x.id = (n0 : Int) ∧ x.code = 0 ∧ x.a.found = decide (n2 = 1) ∧ r7 = numB x.a.num.toNat ++ (numB l.length ++ hitsB l) :=
    K3.step c7 (fun x _ => if x.a.found then 1 else 0) (fun x l => numB x.a.num.toNat ++ (numB l.length ++ hitsB l)) (fun x l hok h => ⟨h.2.2, by split <;> omega⟩) fun x l hok h h1 h2 => ⟨h.1, h.2.1, found_of h1, h2⟩
  have l7 : p7.length + r7.length = s.length := by have := congrArg List.length c7.1; simp only [List.length_append] at this; omega
  have s7 : Stp w w7 := ⟨Fr.st s6.e f7 nbr⟩
  have X7 := X6.fr f7 nxr; have Z7 := Z6.fr f7 nzr
  refine ite (fun (hf : (n2 : Int) = 1) => ?_) (fun (hf : ¬ (n2 : Int) = 1) => ?_)
  · obtain ⟨fd, hfd, hfd1⟩ : ∃ fd : Bool, fd = decide (n2 = 1) ∧ fd = true := ⟨_, rfl, by simp; omega⟩
    refine rsto (B := X7) (vs := [.bool true]) rfl rfl rfl (bool_one _) fun w8 X8 f8 _ => ?_
    rw [← hfd1] at X8
    have X8 : Bk w8 bx [.int .i64 (n0 : Int), .int .i64 0, .bool fd, .int .i64 0, .slice none 0 0] E.api_Reply := X8
    have s8 : Stp w w8 := ⟨Fr.st s7.e f8 nbx⟩
    have R8 := Bk.fr R7 f8 nrx; have Z8 := Z7.fr f8 nzx
    refine rcall (cut_number_sp R8 (by omega)) ?_
    rintro _ w9 ⟨n3, p9, r9, bad9, rfl, R9, c9, f9⟩
    have K5 : Ks s bad9 fun x l => x.id = (n0 : Int) ∧ x.code = 0 ∧ x.a.found = fd ∧ x.a.num = (n3 : Int) ∧ r9 = numB l.length ++ hitsB l :=
      K4.step c9 (fun x _ => x.a.num.toNat) (fun x l => numB l.length ++ hitsB l) (fun x l hok h => ⟨h.2.2.2, by have := hok.2.2.1; omega⟩) fun x l hok h h1 h2 => ⟨h.1, h.2.1, h.2.2.1.trans hfd.symm, by have := hok.2.2.1; omega, h2⟩
    have l9 : p9.length + r9.length = s.length := by have := congrArg List.length c9.1; simp only [List.length_append] at this; omega
    have s9 : Stp w w9 := ⟨Fr.st s8.e f9 nbr⟩
    have X9 := X8.fr f9 nxr; have Z9 := Z8.fr f9 nzr
    refine rsto (B := X9) (vs := [.int .i64 (n3 : Int)]) rfl rfl rfl (int_one _) fun w10 X10 f10 _ => ?_
    have X10 : Bk w10 bx [.int .i64 (n0 : Int), .int .i64 0, .bool fd, .int .i64 (n3 : Int), .slice none 0 0] E.api_Reply := X10
    have s10 : Stp w w10 := ⟨Fr.st s9.e f10 nbx⟩
    have R10 := Bk.fr R9 f10 nrx; have Z10 := Z9.fr f10 nzx
    refine rcall (cut_number_sp R10 (by omega)) ?_
    rintro _ w11 ⟨N, p11, r11, bad11, rfl, R11, c11, f11⟩
    have K6 : Ks s bad11 fun x l => x.id = (n0 : Int) ∧ x.code = 0 ∧ x.a.found = fd ∧ x.a.num = (n3 : Int) ∧ l.length = N ∧ l.take 0 = [] ∧ r11 = hitsB (l.drop 0) :=
      K5.step c11 (fun _ l => l.length) (fun x l => hitsB l) (fun x l hok h => ⟨h.2.2.2.2, by have := hok.2.2.2.1; omega⟩) fun x l hok h h1 h2 => ⟨h.1, h.2.1, h.2.2.1, h.2.2.2.1, h1.symm, rfl, h2⟩
    have l11 : p11.length + r11.length = s.length := by have := congrArg List.length c11.1; simp only [List.length_append] at this; omega
    have s11 : Stp w w11 := ⟨Fr.st s10.e f11 nbr⟩
    have X11 := X10.fr f11 nxr; have Z11 := Z10.fr f11 nzr
    clear K0 K1 K2 K3 K4 K5
    refine cnt TBok 39 [11, 12] 10 101 (fun k u => ∃ (hs : List HitD) (p r : List UInt8) (bad : Bool) (oa : Option Addr) (oc : Nat), hs.length = k ∧ RdC u br p r bad ∧ p.length + r.length = s.length ∧ Bk u bx [.int .i64 (n0 : Int), .int .i64 0, .bool fd, .int .i64 (n3 : Int), .slice oa hs.length oc] E.api_Reply ∧
        Bk u bz (enc zRep) E.api_Reply ∧ Own w.heap.size E.api_Hit u (.slice oa hs.length oc) hs ∧ Stp w u ∧ Ks s bad fun x l => x.id = (n0 : Int) ∧ x.code = 0 ∧ x.a.found = fd ∧ x.a.num = (n3 : Int) ∧ l.length = N ∧ l.take k = hs ∧ r = hitsB (l.drop k)) rfl rfl
      ⟨[], p11, r11, bad11, none, 0, rfl, R11, l11, X11, Z11, Own.nil _ _ _, s11, K6⟩ ?_
    rintro k g u hk ⟨hs', p, r, bad, oa, oc, hlk, Ru, lu, Xu, Zu, Ou, su, Ku⟩
    have zu := su.e.size
    refine ite (fun hlt => ?_) (fun hge => ?_)
    case' refine_1 => refine ite (fun hlt2 => ?_) (fun hge2 => ?_)
    case' refine_1.refine_1 =>
      have hkN : k < N := by omega
      refine rcall (cut_number_sp Ru (by omega)) ?_
      rintro _ u1 ⟨nv, p1, r1, bad1, rfl, R1, c1, f1⟩
      have K7 : Ks s bad1 fun x l => (x.id = (n0 : Int) ∧ x.code = 0 ∧ x.a.found = fd ∧ x.a.num = (n3 : Int) ∧ l.length = N ∧ l.take k = hs') ∧ ∃ y, l[k]? = some y ∧ HitOk y ∧ y.v = (nv : Int) ∧ r1 = numB y.d.toNat ++ hitsB (l.drop (k + 1)) := by
        refine Ks.step (k := fun x l => (x.id = (n0 : Int) ∧ x.code = 0 ∧ x.a.found = fd ∧ x.a.num = (n3 : Int) ∧ l.length = N ∧ l.take k = hs') ∧ ∃ y, l[k]? = some y ∧ HitOk y ∧ r = numB y.v.toNat ++ (numB y.d.toNat ++ hitsB (l.drop (k + 1)))) (Ku.mono fun x l hok h => ?_) c1 (fun _ l => (l[k]?.getD ⟨0, 0⟩).v.toNat) (fun _ l => numB (l[k]?.getD ⟨0, 0⟩).d.toNat ++ hitsB (l.drop (k + 1))) ?_ ?_
        · obtain ⟨h1, h2, h3, h4, h5, h6, h7⟩ := h
          have hkl : k < l.length := by omega
          have ho := hok.2.2.2.2.2.2.2 _ (List.getElem_mem hkl)
          exact ⟨⟨h1, h2, h3, h4, h5, h6⟩, l[k], List.getElem?_eq_getElem hkl, ho, by rw [h7, List.drop_eq_getElem_cons hkl, hitsB_cons ho]⟩
        · rintro x l hok ⟨_, y, hy, ho, hr⟩
          rw [hy]
          exact ⟨hr, by have := ho.1; have := ho.2.1; show y.v.toNat ≤ _; omega⟩
        · rintro x l hok ⟨h, y, hy, ho, hr⟩ e1 e2
          rw [hy] at e1 e2
          exact ⟨h, y, hy, ho, by have := ho.1; have e1' : nv = y.v.toNat := e1; omega, e2⟩
      have lu1 : p1.length + r1.length = s.length := by have := congrArg List.length c1.1; simp only [List.length_append] at this; omega
      have su1 : Stp w u1 := ⟨Fr.st su.e f1 nbr⟩
      have X1 := Xu.fr f1 nxr; have Z1 := Zu.fr f1 nzr
      have O1 := Ou.frc f1 Ru (by decide)
      refine rcall (cut_number_sp R1 (by omega)) ?_
      rintro _ u2 ⟨nd, p2, r2, bad2, rfl, R2', c2, f2⟩
      have K8 : Ks s bad2 fun x l => x.id = (n0 : Int) ∧ x.code = 0 ∧ x.a.found = fd ∧ x.a.num = (n3 : Int) ∧ l.length = N ∧ l.take (k + 1) = hs' ++ [(⟨(nv : Int), (nd : Int)⟩ : HitD)] ∧ r2 = hitsB (l.drop (k + 1)) := by
        refine Ks.step K7 c2 (fun _ l => (l[k]?.getD ⟨0, 0⟩).d.toNat) (fun _ l => hitsB (l.drop (k + 1))) ?_ ?_
        · rintro x l hok ⟨_, y, hy, ho, hv, hr⟩
          rw [hy]
          exact ⟨hr, by have := ho.2.2.1; have := ho.2.2.2; show y.d.toNat ≤ _; omega⟩
        · rintro x l hok ⟨⟨h1, h2, h3, h4, h5, h6⟩, y, hy, ho, hv, hr⟩ e1 e2
          rw [hy] at e1
          have e1' : nd = y.d.toNat := e1
          have hd : y.d = (nd : Int) := by have := ho.2.2.1; omega
          refine ⟨h1, h2, h3, h4, h5, ?_, e2⟩
          have hkl : k < l.length := by omega
          rw [take_add hkl, h6]
          rw [List.getElem?_eq_getElem hkl] at hy
          rw [Option.some.inj hy, ← hv, ← hd]
      have lu2 : p2.length + r2.length = s.length := by have := congrArg List.length c2.1; simp only [List.length_append] at this; omega
      have su2 : Stp w u2 := ⟨Fr.st su1.e f2 nbr⟩
      have X2 := X1.fr f2 nxr; have Z2 := Z1.fr f2 nzr
      have O2 := O1.frc f2 R1 (by decide)
      refine rld (B := X2) rfl ?_
      refine rbuild (cs := [.int .i64 (nv : Int), .int .i64 (nd : Int)]) rfl ?_
      refine rbs1 (α := HitD) ⟨nv, nd⟩ rfl rfl (by decide) fun b6 u4 e6 _ S6 => ?_
      refine rapp1 (u := w) ⟨rfl, rfl⟩ (O2.up (w' := u4)) S6 (by omega) fun v7 u5 O7 f7 s7 => ?_
      have X5 := (X2.mv (w := u4)).fro (O2.up (w' := u4)) f7 (by decide)
      have Z5 := (Z2.mv (w := u4)).fro (O2.up (w' := u4)) f7 (by decide)
      have R5 := (Bk.mv R2' (w := u4)).fro (O2.up (w' := u4)) f7 (by decide)
      have q7 := O7.shape
      obtain ⟨a7, c7, rfl⟩ := q7
      refine rsto (B := X5) (vs := [.slice a7 _ c7]) rfl rfl rfl (sl1 _ _ _) fun u6 X6 f8 _ => ?_
      have su6 : Stp w u6 := ⟨Fr.st Le.e f8 nbx⟩
      exact rar (by omega) ⟨rfl, by omega, hs' ++ [(⟨(nv : Int), (nd : Int)⟩ : HitD)], p2, r2, bad2, a7, c7, by simp [hlk], R5.fr f8 nrx, lu2, X6, Z5.fr f8 nzx, O7.frc f8 X5 (by decide), su6, K8⟩
    all_goals
      have q_ : ∃ xx : RepD, xx = ⟨n0, 0, fd, n3, oa, hs'.length, oc⟩ := ⟨_, rfl⟩
      obtain ⟨xx, hxx⟩ := q_
      have q_ : ∃ hh : List HitD, hh = hs' := ⟨_, rfl⟩
      obtain ⟨hh, hhh⟩ := q_
      have q_ : ∃ q, q = bad := ⟨_, rfl⟩
      obtain ⟨badd, hbadd⟩ := q_
      have XX : Bk u bx (enc xx) E.api_Reply := by rw [hxx]; exact Xu
      have ZZ := Zu
      have RR : RdC u br p r badd := by rw [hbadd]; exact Ru
      have OO : Own w.heap.size E.api_Hit u (.slice xx.a.s.a xx.a.s.n xx.a.s.c) hh := by rw [hxx, hhh]; exact Ou
      have hlh : hh.length ≤ 1000000 := by rw [hhh]; omega
      have KK : Ks s badd fun x l => encR x l = encR xx hh ∧ RepOk xx hh := by
        rw [hbadd]
        refine Ku.mono fun x l hok h => ?_
        obtain ⟨h1, h2, h3, h4, h5, h6, h7⟩ := h
        have := hok.2.2.2.1
        rw [List.take_of_length_le (by omega)] at h6
        rw [hxx, hhh, ← h6]
        exact ⟨encR.congr h1 h2 h3 h4, hok.congr h1 h2 h3 h4⟩
      -- the end: X: the block; hs: the hits; K: what is known
      refine rldG (ds := enc xx) (B := XX) rfl rfl ?_
      refine rcall (r22_PutReply_sp (x := xx) (l := hh) OO.sl hlh) ?_
      rintro _ v1 ⟨⟨hok, rfl⟩ | ⟨hok, rfl⟩, ev1⟩
      · refine rld (B := RR) rfl ?_
        have XX1 := XX.mv (w := v1); have ZZ1 := ZZ.mv (w := v1)
        cases badd
        · refine ite (fun h => absurd rfl h) (fun _ => ?_)
          refine rsne (fun hne => ?_) (fun heq => ?_)
          · refine rbuild (cs := enc zRep) rfl ?_
            refine rsto (B := ZZ1) (vs := enc zRep) rfl rfl rfl (Enc.one _) fun v2 Z9 f9 _ => ?_
            have Z9 : Bk v2 bz (enc zRep) E.api_Reply := Z9
            refine rresG (B := Z9) rfl ?_
            exact ⟨.inr ⟨fun x l hx he => hne (by obtain ⟨_, h1, h2⟩ := KK x l hx he.symm; rw [← he, h1]), rfl⟩, ⟨Fr.st Le.e f9 nbz⟩⟩
          · refine rldG (ds := enc xx) (B := XX1) rfl rfl ?_
            refine rsto (B := ZZ1) (vs := enc xx) rfl rfl rfl (Enc.one _) fun v2 Z9 f9 _ => ?_
            have Z9 : Bk v2 bz (enc xx) E.api_Reply := Z9
            refine rresG (B := Z9) rfl ?_
            have he : encR xx hh = s := by
              have := congrArg (fun b : ByteArray => b.data.toList) heq
              simpa using this
            exact ⟨.inl ⟨xx, hh, hok, he, rfl, (OO.up (w' := v1)).frc f9 ZZ1 (by decide)⟩, ⟨Fr.st Le.e f9 nbz⟩⟩
        · refine rbuild (cs := enc zRep) rfl ?_
          refine rsto (B := ZZ1) (vs := enc zRep) rfl rfl rfl (Enc.one _) fun v2 Z9 f9 _ => ?_
          have Z9 : Bk v2 bz (enc zRep) E.api_Reply := Z9
          refine rresG (B := Z9) rfl ?_
          exact ⟨.inr ⟨fun x l hx he => (by obtain ⟨h0, _⟩ := KK x l hx he.symm; cases h0), rfl⟩, ⟨Fr.st Le.e f9 nbz⟩⟩
      · refine rld (B := RR) rfl ?_
        have ZZ1 := ZZ.mv (w := v1)
        cases badd
        case' false => refine ite (fun _ => ?_) (fun h => absurd (by decide) h)
        all_goals
          refine rbuild (cs := enc zRep) rfl ?_
          refine rsto (B := ZZ1) (vs := enc zRep) rfl rfl rfl (Enc.one _) fun v2 Z9 f9 _ => ?_
          have Z9 : Bk v2 bz (enc zRep) E.api_Reply := Z9
          refine rresG (B := Z9) rfl ?_
          exact ⟨.inr ⟨fun x l hx he => (by obtain ⟨_, _, h2⟩ := KK x l hx he.symm; exact hok h2), rfl⟩, ⟨Fr.st Le.e f9 nbz⟩⟩
  · obtain ⟨fd, hfd, hfd1⟩ : ∃ fd : Bool, fd = decide (n2 = 1) ∧ fd = false := ⟨_, rfl, by simp; omega⟩
    refine rsto (B := X7) (vs := [.bool false]) rfl rfl rfl (bool_one _) fun w8 X8 f8 _ => ?_
    rw [← hfd1] at X8
    have X8 : Bk w8 bx [.int .i64 (n0 : Int), .int .i64 0, .bool fd, .int .i64 0, .slice none 0 0] E.api_Reply := X8
    have s8 : Stp w w8 := ⟨Fr.st s7.e f8 nbx⟩
    have R8 := Bk.fr R7 f8 nrx; have Z8 := Z7.fr f8 nzx
    refine rcall (cut_number_sp R8 (by omega)) ?_
    rintro _ w9 ⟨n3, p9, r9, bad9, rfl, R9, c9, f9⟩
    have K5 : Ks s bad9 fun x l => x.id = (n0 : Int) ∧ x.code = 0 ∧ x.a.found = fd ∧ x.a.num = (n3 : Int) ∧ r9 = numB l.length ++ hitsB l :=
      K4.step c9 (fun x _ => x.a.num.toNat) (fun x l => numB l.length ++ hitsB l) (fun x l hok h => ⟨h.2.2.2, by have := hok.2.2.1; omega⟩) fun x l hok h h1 h2 => ⟨h.1, h.2.1, h.2.2.1.trans hfd.symm, by have := hok.2.2.1; omega, h2⟩
    have l9 : p9.length + r9.length = s.length := by have := congrArg List.length c9.1; simp only [List.length_append] at this; omega
    have s9 : Stp w w9 := ⟨Fr.st s8.e f9 nbr⟩
    have X9 := X8.fr f9 nxr; have Z9 := Z8.fr f9 nzr
    refine rsto (B := X9) (vs := [.int .i64 (n3 : Int)]) rfl rfl rfl (int_one _) fun w10 X10 f10 _ => ?_
    have X10 : Bk w10 bx [.int .i64 (n0 : Int), .int .i64 0, .bool fd, .int .i64 (n3 : Int), .slice none 0 0] E.api_Reply := X10
    have s10 : Stp w w10 := ⟨Fr.st s9.e f10 nbx⟩
    have R10 := Bk.fr R9 f10 nrx; have Z10 := Z9.fr f10 nzx
    refine rcall (cut_number_sp R10 (by omega)) ?_
    rintro _ w11 ⟨N, p11, r11, bad11, rfl, R11, c11, f11⟩
    have K6 : Ks s bad11 fun x l => x.id = (n0 : Int) ∧ x.code = 0 ∧ x.a.found = fd ∧ x.a.num = (n3 : Int) ∧ l.length = N ∧ l.take 0 = [] ∧ r11 = hitsB (l.drop 0) :=
      K5.step c11 (fun _ l => l.length) (fun x l => hitsB l) (fun x l hok h => ⟨h.2.2.2.2, by have := hok.2.2.2.1; omega⟩) fun x l hok h h1 h2 => ⟨h.1, h.2.1, h.2.2.1, h.2.2.2.1, h1.symm, rfl, h2⟩
    have l11 : p11.length + r11.length = s.length := by have := congrArg List.length c11.1; simp only [List.length_append] at this; omega
    have s11 : Stp w w11 := ⟨Fr.st s10.e f11 nbr⟩
    have X11 := X10.fr f11 nxr; have Z11 := Z10.fr f11 nzr
    clear K0 K1 K2 K3 K4 K5
    refine cnt TBok 39 [11, 12] 10 101 (fun k u => ∃ (hs : List HitD) (p r : List UInt8) (bad : Bool) (oa : Option Addr) (oc : Nat), hs.length = k ∧ RdC u br p r bad ∧ p.length + r.length = s.length ∧ Bk u bx [.int .i64 (n0 : Int), .int .i64 0, .bool fd, .int .i64 (n3 : Int), .slice oa hs.length oc] E.api_Reply ∧
        Bk u bz (enc zRep) E.api_Reply ∧ Own w.heap.size E.api_Hit u (.slice oa hs.length oc) hs ∧ Stp w u ∧ Ks s bad fun x l => x.id = (n0 : Int) ∧ x.code = 0 ∧ x.a.found = fd ∧ x.a.num = (n3 : Int) ∧ l.length = N ∧ l.take k = hs ∧ r = hitsB (l.drop k)) rfl rfl
      ⟨[], p11, r11, bad11, none, 0, rfl, R11, l11, X11, Z11, Own.nil _ _ _, s11, K6⟩ ?_
    rintro k g u hk ⟨hs', p, r, bad, oa, oc, hlk, Ru, lu, Xu, Zu, Ou, su, Ku⟩
    have zu := su.e.size
    refine ite (fun hlt => ?_) (fun hge => ?_)
    case' refine_1 => refine ite (fun hlt2 => ?_) (fun hge2 => ?_)
    case' refine_1.refine_1 =>
      have hkN : k < N := by omega
      refine rcall (cut_number_sp Ru (by omega)) ?_
      rintro _ u1 ⟨nv, p1, r1, bad1, rfl, R1, c1, f1⟩
      have K7 : Ks s bad1 fun x l => (x.id = (n0 : Int) ∧ x.code = 0 ∧ x.a.found = fd ∧ x.a.num = (n3 : Int) ∧ l.length = N ∧ l.take k = hs') ∧ ∃ y, l[k]? = some y ∧ HitOk y ∧ y.v = (nv : Int) ∧ r1 = numB y.d.toNat ++ hitsB (l.drop (k + 1)) := by
        refine Ks.step (k := fun x l => (x.id = (n0 : Int) ∧ x.code = 0 ∧ x.a.found = fd ∧ x.a.num = (n3 : Int) ∧ l.length = N ∧ l.take k = hs') ∧ ∃ y, l[k]? = some y ∧ HitOk y ∧ r = numB y.v.toNat ++ (numB y.d.toNat ++ hitsB (l.drop (k + 1)))) (Ku.mono fun x l hok h => ?_) c1 (fun _ l => (l[k]?.getD ⟨0, 0⟩).v.toNat) (fun _ l => numB (l[k]?.getD ⟨0, 0⟩).d.toNat ++ hitsB (l.drop (k + 1))) ?_ ?_
        · obtain ⟨h1, h2, h3, h4, h5, h6, h7⟩ := h
          have hkl : k < l.length := by omega
          have ho := hok.2.2.2.2.2.2.2 _ (List.getElem_mem hkl)
          exact ⟨⟨h1, h2, h3, h4, h5, h6⟩, l[k], List.getElem?_eq_getElem hkl, ho, by rw [h7, List.drop_eq_getElem_cons hkl, hitsB_cons ho]⟩
        · rintro x l hok ⟨_, y, hy, ho, hr⟩
          rw [hy]
          exact ⟨hr, by have := ho.1; have := ho.2.1; show y.v.toNat ≤ _; omega⟩
        · rintro x l hok ⟨h, y, hy, ho, hr⟩ e1 e2
          rw [hy] at e1 e2
          exact ⟨h, y, hy, ho, by have := ho.1; have e1' : nv = y.v.toNat := e1; omega, e2⟩
      have lu1 : p1.length + r1.length = s.length := by have := congrArg List.length c1.1; simp only [List.length_append] at this; omega
      have su1 : Stp w u1 := ⟨Fr.st su.e f1 nbr⟩
      have X1 := Xu.fr f1 nxr; have Z1 := Zu.fr f1 nzr
      have O1 := Ou.frc f1 Ru (by decide)
      refine rcall (cut_number_sp R1 (by omega)) ?_
      rintro _ u2 ⟨nd, p2, r2, bad2, rfl, R2', c2, f2⟩
      have K8 : Ks s bad2 fun x l => x.id = (n0 : Int) ∧ x.code = 0 ∧ x.a.found = fd ∧ x.a.num = (n3 : Int) ∧ l.length = N ∧ l.take (k + 1) = hs' ++ [(⟨(nv : Int), (nd : Int)⟩ : HitD)] ∧ r2 = hitsB (l.drop (k + 1)) := by
        refine Ks.step K7 c2 (fun _ l => (l[k]?.getD ⟨0, 0⟩).d.toNat) (fun _ l => hitsB (l.drop (k + 1))) ?_ ?_
        · rintro x l hok ⟨_, y, hy, ho, hv, hr⟩
          rw [hy]
          exact ⟨hr, by have := ho.2.2.1; have := ho.2.2.2; show y.d.toNat ≤ _; omega⟩
        · rintro x l hok ⟨⟨h1, h2, h3, h4, h5, h6⟩, y, hy, ho, hv, hr⟩ e1 e2
          rw [hy] at e1
          have e1' : nd = y.d.toNat := e1
          have hd : y.d = (nd : Int) := by have := ho.2.2.1; omega
          refine ⟨h1, h2, h3, h4, h5, ?_, e2⟩
          have hkl : k < l.length := by omega
          rw [take_add hkl, h6]
          rw [List.getElem?_eq_getElem hkl] at hy
          rw [Option.some.inj hy, ← hv, ← hd]
      have lu2 : p2.length + r2.length = s.length := by have := congrArg List.length c2.1; simp only [List.length_append] at this; omega
      have su2 : Stp w u2 := ⟨Fr.st su1.e f2 nbr⟩
      have X2 := X1.fr f2 nxr; have Z2 := Z1.fr f2 nzr
      have O2 := O1.frc f2 R1 (by decide)
      refine rld (B := X2) rfl ?_
      refine rbuild (cs := [.int .i64 (nv : Int), .int .i64 (nd : Int)]) rfl ?_
      refine rbs1 (α := HitD) ⟨nv, nd⟩ rfl rfl (by decide) fun b6 u4 e6 _ S6 => ?_
      refine rapp1 (u := w) ⟨rfl, rfl⟩ (O2.up (w' := u4)) S6 (by omega) fun v7 u5 O7 f7 s7 => ?_
      have X5 := (X2.mv (w := u4)).fro (O2.up (w' := u4)) f7 (by decide)
      have Z5 := (Z2.mv (w := u4)).fro (O2.up (w' := u4)) f7 (by decide)
      have R5 := (Bk.mv R2' (w := u4)).fro (O2.up (w' := u4)) f7 (by decide)
      have q7 := O7.shape
      obtain ⟨a7, c7, rfl⟩ := q7
      refine rsto (B := X5) (vs := [.slice a7 _ c7]) rfl rfl rfl (sl1 _ _ _) fun u6 X6 f8 _ => ?_
      have su6 : Stp w u6 := ⟨Fr.st Le.e f8 nbx⟩
      exact rar (by omega) ⟨rfl, by omega, hs' ++ [(⟨(nv : Int), (nd : Int)⟩ : HitD)], p2, r2, bad2, a7, c7, by simp [hlk], R5.fr f8 nrx, lu2, X6, Z5.fr f8 nzx, O7.frc f8 X5 (by decide), su6, K8⟩
    all_goals
      have q_ : ∃ xx : RepD, xx = ⟨n0, 0, fd, n3, oa, hs'.length, oc⟩ := ⟨_, rfl⟩
      obtain ⟨xx, hxx⟩ := q_
      have q_ : ∃ hh : List HitD, hh = hs' := ⟨_, rfl⟩
      obtain ⟨hh, hhh⟩ := q_
      have q_ : ∃ q, q = bad := ⟨_, rfl⟩
      obtain ⟨badd, hbadd⟩ := q_
      have XX : Bk u bx (enc xx) E.api_Reply := by rw [hxx]; exact Xu
      have ZZ := Zu
      have RR : RdC u br p r badd := by rw [hbadd]; exact Ru
      have OO : Own w.heap.size E.api_Hit u (.slice xx.a.s.a xx.a.s.n xx.a.s.c) hh := by rw [hxx, hhh]; exact Ou
      have hlh : hh.length ≤ 1000000 := by rw [hhh]; omega
      have KK : Ks s badd fun x l => encR x l = encR xx hh ∧ RepOk xx hh := by
        rw [hbadd]
        refine Ku.mono fun x l hok h => ?_
        obtain ⟨h1, h2, h3, h4, h5, h6, h7⟩ := h
        have := hok.2.2.2.1
        rw [List.take_of_length_le (by omega)] at h6
        rw [hxx, hhh, ← h6]
        exact ⟨encR.congr h1 h2 h3 h4, hok.congr h1 h2 h3 h4⟩
      -- the end: X: the block; hs: the hits; K: what is known
      refine rldG (ds := enc xx) (B := XX) rfl rfl ?_
      refine rcall (r22_PutReply_sp (x := xx) (l := hh) OO.sl hlh) ?_
      rintro _ v1 ⟨⟨hok, rfl⟩ | ⟨hok, rfl⟩, ev1⟩
      · refine rld (B := RR) rfl ?_
        have XX1 := XX.mv (w := v1); have ZZ1 := ZZ.mv (w := v1)
        cases badd
        · refine ite (fun h => absurd rfl h) (fun _ => ?_)
          refine rsne (fun hne => ?_) (fun heq => ?_)
          · refine rbuild (cs := enc zRep) rfl ?_
            refine rsto (B := ZZ1) (vs := enc zRep) rfl rfl rfl (Enc.one _) fun v2 Z9 f9 _ => ?_
            have Z9 : Bk v2 bz (enc zRep) E.api_Reply := Z9
            refine rresG (B := Z9) rfl ?_
            exact ⟨.inr ⟨fun x l hx he => hne (by obtain ⟨_, h1, h2⟩ := KK x l hx he.symm; rw [← he, h1]), rfl⟩, ⟨Fr.st Le.e f9 nbz⟩⟩
          · refine rldG (ds := enc xx) (B := XX1) rfl rfl ?_
            refine rsto (B := ZZ1) (vs := enc xx) rfl rfl rfl (Enc.one _) fun v2 Z9 f9 _ => ?_
            have Z9 : Bk v2 bz (enc xx) E.api_Reply := Z9
            refine rresG (B := Z9) rfl ?_
            have he : encR xx hh = s := by
              have := congrArg (fun b : ByteArray => b.data.toList) heq
              simpa using this
            exact ⟨.inl ⟨xx, hh, hok, he, rfl, (OO.up (w' := v1)).frc f9 ZZ1 (by decide)⟩, ⟨Fr.st Le.e f9 nbz⟩⟩
        · refine rbuild (cs := enc zRep) rfl ?_
          refine rsto (B := ZZ1) (vs := enc zRep) rfl rfl rfl (Enc.one _) fun v2 Z9 f9 _ => ?_
          have Z9 : Bk v2 bz (enc zRep) E.api_Reply := Z9
          refine rresG (B := Z9) rfl ?_
          exact ⟨.inr ⟨fun x l hx he => (by obtain ⟨h0, _⟩ := KK x l hx he.symm; cases h0), rfl⟩, ⟨Fr.st Le.e f9 nbz⟩⟩
      · refine rld (B := RR) rfl ?_
        have ZZ1 := ZZ.mv (w := v1)
        cases badd
        case' false => refine ite (fun _ => ?_) (fun h => absurd (by decide) h)
        all_goals
          refine rbuild (cs := enc zRep) rfl ?_
          refine rsto (B := ZZ1) (vs := enc zRep) rfl rfl rfl (Enc.one _) fun v2 Z9 f9 _ => ?_
          have Z9 : Bk v2 bz (enc zRep) E.api_Reply := Z9
          refine rresG (B := Z9) rfl ?_
          exact ⟨.inr ⟨fun x l hx he => (by obtain ⟨_, _, h2⟩ := KK x l hx he.symm; exact hok h2), rfl⟩, ⟨Fr.st Le.e f9 nbz⟩⟩
end Go.W
