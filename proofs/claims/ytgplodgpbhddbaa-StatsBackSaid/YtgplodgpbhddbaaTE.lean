/-
  Proved here: replies as bytes tell (plain facts): each text is at most one reply's; codes, Ids and replies counted; replies of texts, handed over one by one (the program's iterator); the replies of an Id (the program's); codes counted (the program's); Ids counted and told; is each told once? (the program's).
  Conditions: those that each fact names.
-/
import Derived.Test.YtgplodgpbhddbaaTD
import Derived.Test.YtgplodgpbhddbaaTA
import Derived.Test.YtgplodgpbhddbaaW33
import Derived.Test.YtgplodgpbhddbaaW21
import Derived.Test.YtgplodgpbhddbaaSortH
import Derived.Test.YtgplodgpbhddbaaW27
import Derived.Test.YtgplodgpbhddbaaSortI
namespace Go.W
open Go
set_option maxRecDepth 10000

/-- a reply -/
structure RepL where
  id : Int
  code : Int
  found : Bool
  num : Int
  hits : List HitD
deriving DecidableEq, Inhabited
def RepL.d (r : RepL) : RepD := ⟨r.id, r.code, r.found, r.num, none, 0, 0⟩
def OkL (r : RepL) : Prop := RepOk r.d r.hits
def encL (r : RepL) : List UInt8 := encR r.d r.hits
theorem OkL.of {x : RepD} {l : List HitD} (h : RepOk x l) : OkL ⟨x.id, x.code, x.a.found, x.a.num, l⟩ := h.congr rfl rfl rfl rfl
theorem OkL.rep {r : RepL} (h : OkL r) {x : RepD} (h1 : x.id = r.id) (h2 : x.code = r.code) (h3 : x.a.found = r.found) (h4 : x.a.num = r.num) : RepOk x r.hits := RepOk.congr h h1.symm h2.symm h3.symm h4.symm
theorem hits_inj : ∀ {l m : List HitD} {s t : List UInt8}, (∀ h ∈ l, HitOk h) → (∀ h ∈ m, HitOk h) → l.length = m.length → hitsB l ++ s = hitsB m ++ t → l = m
  | [], [], _, _, _, _, _, _ => rfl
  | [], _ :: _, _, _, _, _, h, _ => by simp at h
  | _ :: _, [], _, _, _, _, h, _ => by simp at h
  | a :: r, b :: q, s, t, h1, h2, h, e => by
    have ha := h1 a List.mem_cons_self
    have hb := h2 b List.mem_cons_self
    rw [hitsB_cons ha, hitsB_cons hb] at e
    simp only [List.append_assoc] at e
    have q_ := numB_pre e
    obtain ⟨e1, e⟩ := q_
    have q_ := numB_pre e
    obtain ⟨e2, e⟩ := q_
    have ih := hits_inj (fun h hh => h1 h (List.mem_cons_of_mem _ hh)) (fun h hh => h2 h (List.mem_cons_of_mem _ hh)) (by simpa using h) e
    rw [ih]
    congr 1
    obtain ⟨g1, _, g2, _⟩ := ha
    obtain ⟨g3, _, g4, _⟩ := hb
    cases a; cases b
    congr 1 <;> simp only at g1 g2 g3 g4 e1 e2 ⊢ <;> omega
theorem encL_inj {r q : RepL} (hr : OkL r) (hq : OkL q) (e : encL r = encL q) : r = q := by
  unfold encL at e
  unfold OkL at hr hq
  rw [encR_ok hr, encR_ok hq] at e
  have q_ := numB_pre e
  obtain ⟨e1, e⟩ := q_
  have q_ := numB_pre e
  obtain ⟨e2, e⟩ := q_
  have a1 := hr.1; have a2 := hr.2.1; have a3 := hr.2.2.1
  have b1 := hq.1; have b2 := hq.2.1; have b3 := hq.2.2.1
  have c1 : r.id = q.id := by simp only [RepL.d] at a1 b1 e1; omega
  have c2 : r.code = q.code := by simp only [RepL.d] at a2 b2 e2; omega
  by_cases hc : r.code = 0
  · have hc' : q.code = 0 := by omega
    have hc1 : r.d.code = 0 := hc
    have hc2 : q.d.code = 0 := hc'
    unfold rest2 at e
    simp only [hc1, hc2, ne_eq, not_true_eq_false, if_false] at e
    have q_ := numB_pre e
    obtain ⟨e3, e⟩ := q_
    have q_ := numB_pre e
    obtain ⟨e4, e⟩ := q_
    have q_ := numB_pre e
    obtain ⟨e5, e⟩ := q_
    have e6 := hits_inj (s := []) (t := []) hr.2.2.2.2.2.2.2 hq.2.2.2.2.2.2.2 e5 (by simpa using e)
    have c3 : r.found = q.found := by
      have e3' : (if r.found then 1 else 0) = (if q.found then 1 else 0) := e3
      generalize r.found = x at e3' ⊢
      generalize q.found = y at e3' ⊢
      cases x <;> cases y <;> simp at e3' ⊢
    have c4 : r.num = q.num := by simp only [RepL.d] at a3 b3 e4; omega
    cases r; cases q; simp only at c1 c2 c3 c4 e6; subst c1 c2 c3 c4 e6; rfl
  · have z1 := hr.2.2.2.2.1 hc
    have z2 := hq.2.2.2.2.1 (by show q.code ≠ 0; omega)
    obtain ⟨x1, x2, x3⟩ := z1
    obtain ⟨y1, y2, y3⟩ := z2
    have x1 : r.found = false := x1; have x2 : r.num = 0 := x2; have y1 : q.found = false := y1; have y2 : q.num = 0 := y2
    cases r; cases q; simp only at c1 c2 x1 x2 x3 y1 y2 y3; subst c1 c2 x1 x2 x3 y1 y2 y3; rfl
open Classical in
/-- the reply whose bytes these are -/
noncomputable def getR (s : List UInt8) : Option RepL := if h : ∃ r, OkL r ∧ encL r = s then some h.choose else none
theorem getR_some {s : List UInt8} {r : RepL} : getR s = some r ↔ OkL r ∧ encL r = s := by
  unfold getR
  constructor
  · intro h
    split at h
    · rename_i hh; injection h with h; rw [← h]; exact hh.choose_spec
    · cases h
  · intro h
    have hh : ∃ r, OkL r ∧ encL r = s := ⟨r, h⟩
    rw [dif_pos hh]
    congr 1
    exact encL_inj hh.choose_spec.1 h.1 (hh.choose_spec.2.trans h.2.symm)
theorem getR_none {s : List UInt8} : getR s = none ↔ ∀ r, OkL r → encL r ≠ s := by
  constructor
  · intro h r hr he
    rw [getR_some.2 ⟨hr, he⟩] at h; cases h
  · intro h
    cases hg : getR s with
    | none => rfl
    | some r => exact (h r (getR_some.1 hg).1 (getR_some.1 hg).2).elim
/-- the replies of texts -/
noncomputable def reps (L : List ByteArray) : List RepL := L.filterMap fun s => getR s.data.toList
theorem reps_len (L : List ByteArray) : (reps L).length ≤ L.length := List.length_filterMap_le ..
theorem reps_take {L : List ByteArray} {k : Nat} (h : k < L.length) : reps (L.take (k + 1)) = reps (L.take k) ++ (getR L[k].data.toList).toList := by
  unfold reps
  rw [take_add h, List.filterMap_append]
  cases hg : getR L[k].data.toList <;> simp [List.filterMap, hg]
theorem reps_append (L M : List ByteArray) : reps (L ++ M) = reps L ++ reps M := by unfold reps; rw [List.filterMap_append]
theorem reps_ok {L : List ByteArray} : ∀ r ∈ reps L, OkL r := by
  intro r hr
  unfold reps at hr
  have q_ := List.mem_filterMap.1 hr
  obtain ⟨s, _, hs⟩ := q_
  exact (getR_some.1 hs).1
/-- how many are of a code, of an Id -/
def cntC (rs : List RepL) (c : Int) : Nat := (rs.filter fun r => decide (r.code = c)).length
def cntI (rs : List RepL) (i : Int) : Nat := (rs.filter fun r => decide (r.id = i)).length
theorem cntC_snoc (rs : List RepL) (r : RepL) (c : Int) : cntC (rs ++ [r]) c = cntC rs c + if c = r.code then 1 else 0 := by
  unfold cntC; rw [List.filter_append, List.length_append]
  congr 1
  by_cases h : r.code = c
  · subst h; simp
  · rw [if_neg (fun e => h e.symm)]; simp [h]
theorem cntI_snoc (rs : List RepL) (r : RepL) (c : Int) : cntI (rs ++ [r]) c = cntI rs c + if c = r.id then 1 else 0 := by
  unfold cntI; rw [List.filter_append, List.length_append]
  congr 1
  by_cases h : r.id = c
  · subst h; simp
  · rw [if_neg (fun e => h e.symm)]; simp [h]
theorem cntC_le (rs : List RepL) (c : Int) : cntC rs c ≤ rs.length := List.length_filter_le ..
theorem cntI_le (rs : List RepL) (c : Int) : cntI rs c ≤ rs.length := List.length_filter_le ..
theorem cntC_append (rs qs : List RepL) (c : Int) : cntC (rs ++ qs) c = cntC rs c + cntC qs c := by unfold cntC; rw [List.filter_append, List.length_append]
structure CntD where
  code : Int
  n : Int
deriving DecidableEq, Inhabited
/-- codes, and how many replies are of each -/
def codesL (rs : List RepL) : List CntD := (List.range 1001).filterMap fun (c : Nat) => if cntC rs (c : Int) = 0 then none else some ⟨(c : Int), (cntC rs (c : Int) : Nat)⟩
theorem codes_mem {rs : List RepL} (h : ∀ r ∈ rs, OkL r) (x : CntD) : x ∈ codesL rs ↔ cntC rs x.code ≠ 0 ∧ x.n = (cntC rs x.code : Nat) := by
  unfold codesL
  rw [List.mem_filterMap]
  constructor
  · rintro ⟨c, _, hc⟩
    split at hc
    · cases hc
    · rename_i h0; injection hc with hc; subst hc; exact ⟨h0, rfl⟩
  · rintro ⟨h0, h1⟩
    have hne : (rs.filter fun r => decide (r.code = x.code)) ≠ [] := fun e => h0 (by unfold cntC; rw [e]; rfl)
    have q_ := List.exists_mem_of_ne_nil _ hne
    obtain ⟨r, hr⟩ := q_
    rw [List.mem_filter] at hr
    have hc := (h r hr.1).2.1
    have e : r.code = x.code := by simpa using hr.2
    have hc1 : 0 ≤ r.code ∧ r.code ≤ 1000 := hc
    refine ⟨x.code.toNat, List.mem_range.2 (by omega), ?_⟩
    have e2 : ((x.code.toNat : Nat) : Int) = x.code := by omega
    rw [e2, if_neg h0]
    congr 1
    cases x; simp only at h1 ⊢; rw [h1]
theorem codes_rise (rs : List RepL) : (codesL rs).Pairwise fun a b => a.code < b.code := by
  unfold codesL
  rw [List.pairwise_filterMap]
  refine List.Pairwise.imp ?_ (List.pairwise_lt_range)
  intro a b hab x hx y hy
  split at hx
  · cases hx
  · split at hy
    · cases hy
    · injection hx with hx; injection hy with hy; subst hx; subst hy
      show (a : Int) < (b : Int); omega
/-- rows that rise, with the same members, are the same -/
theorem rise_ext {α : Type} (f : α → Int) : ∀ {l m : List α}, l.Pairwise (fun a b => f a < f b) → m.Pairwise (fun a b => f a < f b) → (∀ x, x ∈ l ↔ x ∈ m) → l = m
  | [], [], _, _, _ => rfl
  | [], b :: m, _, _, h => by have := (h b).2 List.mem_cons_self; cases this
  | a :: l, [], _, _, h => by have := (h a).1 List.mem_cons_self; cases this
  | a :: l, b :: m, h1, h2, h => by
    rw [List.pairwise_cons] at h1 h2
    have hab : a = b := by
      have q_ := List.mem_cons.1 ((h a).1 List.mem_cons_self)
      rcases q_ with h3 | h3
      · exact h3
      · have q_ := List.mem_cons.1 ((h b).2 List.mem_cons_self)
        rcases q_ with h4 | h4
        · exact h4.symm
        · have := h1.1 _ h4; have := h2.1 _ h3; omega
    subst hab
    congr 1
    refine rise_ext f h1.2 h2.2 fun x => ?_
    constructor
    · intro hx
      have q_ := List.mem_cons.1 ((h x).1 (List.mem_cons_of_mem _ hx))
      rcases q_ with h3 | h3
      · subst h3; have := h1.1 _ hx; omega
      · exact h3
    · intro hx
      have q_ := List.mem_cons.1 ((h x).2 (List.mem_cons_of_mem _ hx))
      rcases q_ with h3 | h3
      · subst h3; have := h2.1 _ hx; omega
      · exact h3
/-- all Ids, rising -/
def idsL (rs : List RepL) : List Int := risingL (rs.map (·.id))
theorem ids_mem (rs : List RepL) (i : Int) : i ∈ idsL rs ↔ cntI rs i ≠ 0 := by
  unfold idsL
  rw [(rising_spec _).2, List.mem_map]
  unfold cntI
  constructor
  · rintro ⟨r, hr, rfl⟩ h0
    have := List.eq_nil_of_length_eq_zero h0
    have hm : r ∈ rs.filter fun q => decide (q.id = r.id) := List.mem_filter.2 ⟨hr, by simp⟩
    rw [this] at hm; cases hm
  · intro h0
    obtain ⟨r, hr⟩ := List.exists_mem_of_ne_nil (rs.filter fun r => decide (r.id = i)) fun e => h0 (by rw [e]; rfl)
    rw [List.mem_filter] at hr
    exact ⟨r, hr.1, by simpa using hr.2⟩
end Go.W
namespace Go.W
open Go Go.Proofs
open Enc (enc)
set_option maxRecDepth 10000

/-- a reply as it lies -/
abbrev RepM (w : World) (x : RepD) (r : RepL) : Prop := x.id = r.id ∧ x.code = r.code ∧ x.a.found = r.found ∧ x.a.num = r.num ∧ SlY E.api_Hit w (.slice x.a.s.a x.a.s.n x.a.s.c) r.hits
theorem SlY.qt {α : Type} [Enc α] {e : TypeId} {B : Nat} {u u' : World} {v : Value} {l : List α} (h : SlY e u v l) (q : Qt B u u') : SlY e u' v l := by
  refine ⟨h.1.qt q, ?_⟩
  have q_ := h.2
  rcases q_ with h2 | ⟨b, cs, z, h3, h4⟩
  · exact .inl h2
  · exact .inr ⟨b, cs, z, h3, q.block b _ h4 (.inr rfl)⟩
theorem RepM.up {w w' : World} [L : Le w w'] {x : RepD} {r : RepL} (h : RepM w x r) : RepM w' x r := ⟨h.1, h.2.1, h.2.2.1, h.2.2.2.1, h.2.2.2.2.up⟩
theorem RepM.qt {B : Nat} {w w' : World} {x : RepD} {r : RepL} (h : RepM w x r) (q : Qt B w w') : RepM w' x r := ⟨h.1, h.2.1, h.2.2.1, h.2.2.2.1, h.2.2.2.2.qt q⟩
theorem RepM.kept {B : Nat} {es : List TypeId} {w w' : World} {x : RepD} {r : RepL} (h : RepM w x r) (f : FrT B es w w') (he : E.api_Hit ∉ es) : RepM w' x r := ⟨h.1, h.2.1, h.2.2.1, h.2.2.2.1, h.2.2.2.2.kept f he⟩
theorem RepM.ok {w : World} {x : RepD} {r : RepL} (h : RepM w x r) (o : OkL r) : RepOk x r.hits := o.rep h.1 h.2.1 h.2.2.1 h.2.2.2.1
/-- what is told of a text -/
def RX (w : World) (s : ByteArray) (q : RepD) (odd : Bool) : Prop := (odd = false ∧ ∃ r, getR s.data.toList = some r ∧ RepM w q r) ∨ (odd = true ∧ getR s.data.toList = none)
theorem RX.up {w w' : World} [L : Le w w'] {s : ByteArray} {q : RepD} {odd : Bool} (h : RX w s q odd) : RX w' s q odd := by
  rcases h with ⟨h1, r, h2, h3⟩ | h
  · exact .inl ⟨h1, r, h2, h3.up⟩
  · exact .inr h
theorem RX.qt {B : Nat} {w w' : World} {s : ByteArray} {q : RepD} {odd : Bool} (h : RX w s q odd) (k : Qt B w w') : RX w' s q odd := by
  rcases h with ⟨h1, r, h2, h3⟩ | h
  · exact .inl ⟨h1, r, h2, h3.qt k⟩
  · exact .inr h
theorem GetRep.rx {s : ByteArray} {B : Nat} {v : Value} {w : World} (h : GetRep s.data.toList B v w) : ∃ q odd, v = .tuple #[agg q, .int .i64 (if odd then 220 else 0)] ∧ RX w s q odd := by
  rcases h with ⟨x, l, hok, he, rfl, O⟩ | ⟨hno, rfl⟩
  · exact ⟨x, false, rfl, .inl ⟨rfl, ⟨x.id, x.code, x.a.found, x.a.num, l⟩, getR_some.2 ⟨OkL.of hok, he⟩, rfl, rfl, rfl, rfl, O.y⟩⟩
  · exact ⟨zRep, true, rfl, .inr ⟨rfl, getR_none.2 fun r hr he => hno _ _ hr he⟩⟩
theorem str_txt (s : ByteArray) : Value.string s = txt s.data.toList := rfl
theorem frame_GetReply_b {s : ByteArray} {w : World} (hs : s.size ≤ 1000000) : Sp Try.prog F.frame_GetReply #[.string s] w fun v w' => (∃ q odd, v = .tuple #[agg q, .int .i64 (if odd then 220 else 0)] ∧ RX w' s q odd) ∧ Stp w w' :=
  (frame_GetReply_sp (s := s.data.toList) hs).mono fun _ _ h => ⟨h.1.rx, h.2⟩
theorem r22_GetReply_b {s : ByteArray} {w : World} (hs : s.size ≤ 1000000) : Sp Try.prog F.r22_GetReply #[.string s] w fun v w' => (∃ q odd, v = .tuple #[agg q, .int .i64 (if odd then 220 else 0)] ∧ RX w' s q odd) ∧ Stp w w' :=
  (r22_GetReply_sp (s := s.data.toList) hs).mono fun _ _ h => ⟨h.1.rx, h.2⟩
/-- texts that are not too long -/
def Short (L : List ByteArray) : Prop := L.length ≤ 1000 ∧ ∀ s ∈ L, s.size ≤ 100000
abbrev rpX (b1 B : Nat) : Nat → Prop := fun i => i = b1 ∨ i < B
structure RepDat (L : List ByteArray) (a : Option Addr) (c b1 B : Nat) (u : World) : Prop where
  s : SlF u (.slice a L.length c) L
  b : Bk u b1 [.slice a L.length c] E.s_string
  hs : L ≠ [] → ∀ g, Value.blk (.slice a L.length c) = some g → g < B
theorem RepDat.kp {L : List ByteArray} {a : Option Addr} {c b1 B : Nat} {u u' : World} (h : RepDat L a c b1 B u) (k : Kp (rpX b1 B) u u') : RepDat L a c b1 B u' := ⟨h.s.kp k fun hl g hg => .inr (h.hs hl g hg), h.b.kp k (.inl rfl), h.hs⟩
theorem replies_seq {L : List ByteArray} {a : Option Addr} {c b1 B : Nat} (hL : Short L) : SeqG Try.prog F.stats_replies_1 [] [.pointer (some ⟨b1, 0, none⟩)] Ext (Kp (rpX b1 B)) (RepDat L a c b1 B)
    (fun ys x u => ∃ h : ys.length < L.length, ∃ q odd, x = [agg q, .bool odd] ∧ RX u L[ys.length] q odd) (fun ys => ys.length = L.length) := by
  obtain ⟨hn, hsz⟩ := hL
  refine ⟨fun y J Jx w hJ hJx hY h0 D0 => ?_⟩
  refine en TBok rfl ?_
  refine rld (B := D0.b) rfl ?_
  refine cnt TBok 10 [3, 4, 5, 6] 9 L.length (fun k u => ∃ ys, ys.length = k ∧ J ys u ∧ RepDat L a c b1 B u) rfl rfl ⟨[], rfl, h0, D0⟩ ?_
  rintro k g u hk ⟨ys, hys, hj, D⟩
  refine ite (fun hlt => ?_) (fun hge => ?_)
  · have hka : k < L.length := by omega
    refine rix D.s (x := L[k]) (by simp) fun b4 o4 A4 => rload1 (A4.cell0 rfl) ?_
    refine rcall (frame_GetReply_b (s := L[k]) (by have := hsz _ (List.getElem_mem hka); omega)) ?_
    rintro _ u1 ⟨⟨q, odd, rfl, hx⟩, e1⟩
    refine ral fun b5 u2 n2 z2 => ?_
    refine rsto (B := z2) (vs := enc q) rfl rfl rfl (Enc.one _) fun u3 B3 f3 _ => ?_
    have B3 : Bk u3 b5 (enc q) E.api_Reply := B3
    have s3 : Stp u1 u3 := ⟨Fr.st Le.e f3 fun i hi => by subst hi; exact n2.lo⟩
    refine rldG (ds := enc q) (B := B3) rfl (Enc.len q) ?_
    have hj3 := hJ _ _ _ hj (Le.e (a := u) (b := u3))
    have D3 := D.kp (.of_ext (Le.e (a := u) (b := u3)))
    have hyk : ys.length < L.length := by omega
    have hx3 : RX u3 L[ys.length] q odd := by have := hx.up (w' := u3); simpa only [hys] using this
    cases odd
    case' false => refine ite (fun h => absurd rfl h) (fun _ => ?_)
    case' true => refine ite (fun _ => ?_) (fun h => absurd (by decide) h)
    all_goals
      refine ryield (vs := [agg q, .bool _]) rfl rfl rfl rfl (hY ys u3 _ ⟨hyk, q, _, rfl, hx3⟩ hj3) ?_
      rintro bb u4 ⟨⟨rfl, hj4⟩ | ⟨rfl, hx4⟩, hK⟩
      · exact rar (by omega) ⟨rfl, hka, _, by simp [hys], hj4, D3.kp hK⟩
      · exact .inr hx4
  · exact .inl ⟨ys, by omega, hj⟩
theorem stats_replies_sp {a : Option Addr} {n c : Nat} {L : List ByteArray} {w : World} (h : SlF w (.slice a n c) L) : Sp Try.prog F.stats_replies #[.slice a n c] w fun v w' => (∃ b1, v = .func (.func F.stats_replies_1) #[] #[.pointer (some ⟨b1, 0, none⟩)] ∧ w.heap.size ≤ b1 ∧ RepDat L a c b1 w.heap.size w') ∧ Stp w w' := by
  have q_ := h.len
  obtain rfl := q_
  refine en TBok rfl ?_
  refine rbx fun b1 w1 n1 B1 => ?_
  refine ⟨⟨b1, rfl, n1.lo, h.up, B1, fun hl g hg => ?_⟩, stp⟩
  have q_ := h.lt hl
  obtain ⟨g', h1, h2⟩ := q_
  rw [hg] at h1; cases h1; exact h2
/-- the rest of what a range over replies asks -/
theorem rx_two {L : List ByteArray} : ∀ (ys : List (List Value)) (x : List Value) (u : World), (∃ h : ys.length < L.length, ∃ q odd, x = [agg q, .bool odd] ∧ RX u L[ys.length] q odd) → x.length = 2 := by
  rintro ys x u ⟨_, q, odd, rfl, _⟩; rfl
end Go.W
namespace Go.W
open Go Go.Proofs
open Enc (enc)
set_option maxRecDepth 10000

/-- rows of replies as they lie -/
def RepsM (w : World) (xs : List RepD) (rs : List RepL) : Prop := xs.length = rs.length ∧ ∀ (i : Nat) (x : RepD) (r : RepL), xs[i]? = some x → rs[i]? = some r → RepM w x r
theorem RepsM.imp {w w' : World} {xs : List RepD} {rs : List RepL} (h : RepsM w xs rs) (f : ∀ x r, RepM w x r → RepM w' x r) : RepsM w' xs rs := ⟨h.1, fun i x r h1 h2 => f x r (h.2 i x r h1 h2)⟩
theorem RepsM.up {w w' : World} [L : Le w w'] {xs : List RepD} {rs : List RepL} (h : RepsM w xs rs) : RepsM w' xs rs := h.imp fun _ _ h => h.up
theorem RepsM.qt {B : Nat} {w w' : World} {xs : List RepD} {rs : List RepL} (h : RepsM w xs rs) (q : Qt B w w') : RepsM w' xs rs := h.imp fun _ _ h => h.qt q
theorem RepsM.nil (w : World) : RepsM w [] [] := ⟨rfl, fun _ _ _ h => by simp at h⟩
theorem RepsM.snoc {w : World} {xs : List RepD} {rs : List RepL} {x : RepD} {r : RepL} (h : RepsM w xs rs) (hx : RepM w x r) : RepsM w (xs ++ [x]) (rs ++ [r]) := by
  refine ⟨by simp [h.1], fun i y q h1 h2 => ?_⟩
  have q_ := Nat.lt_or_ge i xs.length
  rcases q_ with hi | hi
  · rw [List.getElem?_append_left hi] at h1
    rw [List.getElem?_append_left (by rw [← h.1]; exact hi)] at h2
    exact h.2 i y q h1 h2
  · rw [List.getElem?_append_right hi] at h1
    rw [List.getElem?_append_right (by rw [← h.1]; exact hi)] at h2
    have hl := h.1
    have hz : i - xs.length = 0 := by
      have := (List.getElem?_eq_some_iff.1 h1).1
      simp at this; omega
    rw [hz] at h1
    rw [show i - rs.length = 0 by omega] at h2
    simp at h1 h2; subst h1 h2; exact hx
theorem SlY.fro {α β : Type} [Enc α] [Enc β] {e e' : TypeId} {B : Nat} {w w' : World} {v v' : Value} {l : List α} {l' : List β} (h : SlY e w v l) (k : Own B e' w v' l') (f : Fr (ownD B v') w w') (hne : e ≠ e') : SlY e w' v l :=
  h.fr f (fun b cs z hb hc hD => by
    obtain ⟨h1, h2, h3⟩ := hD
    rcases k with ⟨_, a, rfl⟩ | k
    · exact h3 a rfl
    · have q_ := k.2
      rcases q_ with ⟨rfl, _⟩ | ⟨g, cap, cur, rfl, _, hg, _⟩
      · exact h3 none rfl
      · have : g = b := by simpa [Value.blk] using h2
        subst this
        rw [hg] at hc; cases hc; exact hne rfl)
theorem SlY.frc {α : Type} [Enc α] {e e' : TypeId} {w w' : World} {v : Value} {l : List α} {b : Nat} {cs : List Value} (h : SlY e w v l) (f : Fr (fun i => i = b) w w') (k : Bk w b cs e') (hne : e ≠ e') : SlY e w' v l :=
  h.fr f (fun g cs' z _ hc hD => by
    subst hD
    have := k.h
    rw [this] at hc; cases hc; exact hne rfl)
theorem RepM.fro {β : Type} [Enc β] {e' : TypeId} {B : Nat} {w w' : World} {x : RepD} {r : RepL} {v' : Value} {l' : List β} (h : RepM w x r) (k : Own B e' w v' l') (f : Fr (ownD B v') w w') (hne : E.api_Hit ≠ e') : RepM w' x r := ⟨h.1, h.2.1, h.2.2.1, h.2.2.2.1, h.2.2.2.2.fro k f hne⟩
theorem RepM.frc {e' : TypeId} {w w' : World} {x : RepD} {r : RepL} {b : Nat} {cs : List Value} (h : RepM w x r) (f : Fr (fun i => i = b) w w') (k : Bk w b cs e') (hne : E.api_Hit ≠ e') : RepM w' x r := ⟨h.1, h.2.1, h.2.2.1, h.2.2.2.1, h.2.2.2.2.frc f k hne⟩
theorem SlF.blk_lt {α : Type} [Enc α] {w : World} {v : Value} {l : List α} (h : SlF w v l) (hl : l ≠ []) {g : Nat} (hg : Value.blk v = some g) : g < w.heap.size := by
  have q_ := h.lt hl
  obtain ⟨g', h1, h2⟩ := q_
  rw [hg] at h1; cases h1; exact h2
def ofI (id : Int) (rs : List RepL) : List RepL := rs.filter fun r => decide (r.id = id)
theorem ofI_len (id : Int) (rs : List RepL) : (ofI id rs).length ≤ rs.length := List.length_filter_le ..
set_option maxHeartbeats 1000000 in
theorem stats_Of_sp {a : Option Addr} {n c : Nat} {L : List ByteArray} {id : Int} {w : World} (h : SlF w (.slice a n c) L) (hL : Short L) :
    Sp Try.prog F.stats_Of #[.slice a n c, .int .i64 id] w fun v w' => (∃ v' xs, v = .tuple #[v', .bool (decide (0 < (ofI id (reps L)).length))] ∧ Own w.heap.size E.api_Reply w' v' xs ∧ RepsM w' xs (ofI id (reps L))) ∧ Stp w w' := by
  have hn := hL.1
  have q_ := h.len
  obtain rfl := q_
  refine en TBok rfl ?_
  refine rbx fun bi w1 n1 Bi => ?_
  refine ral fun bo w2 n2 Bo => ?_
  have hbi := n1.b; have hsi := n1.s; have hbo := n2.b; have hso := n2.s
  refine rcall (stats_replies_sp (h.up (w' := w2))) ?_
  rintro v w3 ⟨⟨b1, rfl, hb1, D3⟩, e3⟩
  have z3 := Le.size (a := w2) (b := w3)
  have D0 : RepDat L a c b1 w.heap.size w3 := ⟨D3.s, D3.b, fun hl g hg => (h.blk_lt hl hg)⟩
  clear D3
  have C2 : Bk w3 bo [.slice none 0 0] E.s_api_Reply := Bo.mv
  have Ci : Bk w3 bi [.int .i64 id] E.int := Bi.mv
  refine rrangeG TBok rfl (gf := F.stats_replies_1) (first := []) (cap := [.pointer (some ⟨b1, 0, none⟩)]) (Rc := fun c u => (∃ D, Fr D c u) ∧ Kp (rpX b1 w.heap.size) c u) rfl rfl (replies_seq hL) rx_two (fun u u' h => ⟨_, h⟩)
    (fun ys u => ∃ (oa : Option Addr) (oc : Nat) (xs : List RepD), ys.length ≤ L.length ∧ Bk u bo [.slice oa xs.length oc] E.s_api_Reply ∧ Bk u bi [.int .i64 id] E.int ∧ RepDat L a c b1 w.heap.size u ∧ Own w.heap.size E.api_Reply u (.slice oa xs.length oc) xs ∧ RepsM u xs (ofI id (reps (L.take ys.length))) ∧ Stp w u) (fun _ _ => False)
    ?_ ?_ ?_ ?_ ?_ (fun c u h => h.1) (fun w' e => D0.kp (.of_ext e)) ⟨none, 0, [], by simp, C2, Ci, D0, Own.nil _ _ _, RepsM.nil _, stp⟩ ?_ ?_ ?_
  · rintro ys u u' ⟨oa, oc, xs, h1, h2, h3, h4, h5, h6, h7⟩ q
    exact ⟨oa, oc, xs, h1, h2.qt q, h3.qt q, h4.kp (.of_qt q), h5.qt q, h6.qt q, h7.qt (q.mono (by omega))⟩
  · rintro _ u u' h; exact h.elim
  · rintro ys u u' _ ⟨oa, oc, xs, h1, h2, h3, h4, h5, h6, h7⟩ q
    exact ⟨oa, oc, xs, h1, h2.fr q not_false, h3.fr q not_false, h4.kp (.of_ext q), h5.ext q, h6.imp fun x r hx => ⟨hx.1, hx.2.1, hx.2.2.1, hx.2.2.2.1, hx.2.2.2.2.fr q fun _ _ _ _ _ h => h⟩, ⟨h7.e.t q⟩⟩
  · rintro _ u u' _ h; exact h.elim
  · rintro u c u2 u3 q1 ⟨_, r⟩ q2; exact ((Kp.of_qt q1).trans r).trans (.of_qt q2)
  · rintro ys x u ⟨hlt, q, odd, rfl, hx⟩ _ ⟨oa, oc, xs, h1, h2, h3, h4, h5, h6, h7⟩
    refine ral fun bx v1 m1 z1 => ?_
    refine rsto (B := z1) (vs := enc q) rfl rfl rfl (Enc.one _) fun v2 X2 f2 _ => ?_
    have X2 : Bk v2 bx (enc q) E.api_Reply := X2
    have s2 : Stp u v2 := ⟨Fr.st Le.e f2 fun i hi => by subst hi; exact m1.lo⟩
    refine ⟨s2.e, fun c1 qt => ?_⟩
    have X := X2.qt qt
    have h2 := (h2.mv (w := v2)).qt qt; have h3 := (h3.mv (w := v2)).qt qt
    have h4 := (h4.kp (.of_ext s2.e)).kp (.of_qt qt); have h5 := (h5.up (w' := v2)).qt qt; have h6 := (h6.up (w' := v2)).qt qt
    have h7 : Stp w c1 := ⟨(h7.e.t s2.e).qt (qt.mono (by omega))⟩
    have hx := (hx.up (w' := v2)).qt qt
    have htk := reps_take hlt
    have keepC : Kp (rpX b1 w.heap.size) c1 c1 := .of_ext (Fr.refl _ _)
    rcases hx with ⟨rfl, r, hr, hM⟩ | ⟨rfl, hr⟩
    · rw [hr] at htk
      have hlen : (ys ++ [[agg q, Value.bool false]]).length = ys.length + 1 := by simp
      refine rld (B := X) rfl ?_
      refine rld (B := h3) rfl ?_
      refine ite (fun (he : q.id = id) => ?_) (fun (he : ¬ q.id = id) => ?_)
      · have hri : r.id = id := by rw [← hM.1]; exact he
        have hof : ofI id (reps (L.take (ys.length + 1))) = ofI id (reps (L.take ys.length)) ++ [r] := by rw [htk]; unfold ofI; rw [List.filter_append]; simp [hri]
        refine rld (B := h2) rfl ?_
        refine rldG (ds := enc q) (B := X) rfl (Enc.len q) ?_
        refine rbs1 q rfl (by show (enc q).toArray.toList = enc q; simp) (by decide) fun b6 v6 e6 _ S6 => ?_
        have hxl : xs.length ≤ L.length := by have := ofI_len id (reps (L.take ys.length)); have := reps_len (L.take ys.length); rw [List.length_take] at this; rw [h6.1]; omega
        refine rapp1 (u := w) ⟨rfl, rfl⟩ (h5.up (w' := v6)) S6 (by omega) fun v7 w7 O7 f7 s7 => ?_
        have k2 := (h2.mv (w := v6)).fro (h5.up (w' := v6)) f7 (by decide)
        have k3 := (h3.mv (w := v6)).fro (h5.up (w' := v6)) f7 (by decide)
        have kx := (h4.b.mv (w := v6)).notOwn (B' := w.heap.size) (h5.up (w' := v6)) (by decide)
        have q7 := O7.shape
        obtain ⟨a7, c7, rfl⟩ := q7
        refine rsto (B := k2) (vs := [.slice a7 _ c7]) rfl rfl rfl (sl1 _ _ _) fun w8 B8 f8 _ => ?_
        have s8 : Stp w w8 := ⟨Fr.st Le.e f8 fun i hi => by omega⟩
        have kp : Kp (rpX b1 w.heap.size) c1 w8 := ((Kp.of_ext e6.e).trans (.of_fr f7 fun i hi => by
          rcases hi with rfl | hi
          · exact kx
          · exact fun hD => by have := hD.1; omega)).trans (.of_fr f8 fun i hi => by
            rcases hi with rfl | hi
            · intro hb; have := k2.h; subst hb; omega
            · omega)
        refine ⟨⟨a7, c7, xs ++ [q], by rw [hlen]; exact hlt, B8, k3.fr f8 (by omega), h4.kp kp, O7.frc f8 k2 (by decide), ?_, s8⟩, ⟨_, ((Fr.fr e6.e).trans (f7.mono fun i _ hi => (.inl hi : ownD w.heap.size (.slice oa xs.length oc) i ∨ i = bo))).trans (f8.mono fun i _ hi => .inr hi)⟩, kp⟩
        rw [hlen, hof]
        refine RepsM.snoc (h6.imp fun x r hx => ((hx.up (w' := v6)).fro (h5.up (w' := v6)) f7 (by decide)).frc f8 k2 (by decide)) (((hM.up (w' := v6)).fro (h5.up (w' := v6)) f7 (by decide)).frc f8 k2 (by decide))
      · have hri : ¬ r.id = id := by rw [← hM.1]; exact he
        have hof : ofI id (reps (L.take (ys.length + 1))) = ofI id (reps (L.take ys.length)) := by rw [htk]; unfold ofI; rw [List.filter_append]; simp [hri]
        exact ⟨⟨oa, oc, xs, by rw [hlen]; exact hlt, h2, h3, h4, h5, by rw [hlen, hof]; exact h6, h7⟩, ⟨_, Fr.refl (fun _ => False) _⟩, keepC⟩
    · rw [hr] at htk
      have hlen : (ys ++ [[agg q, Value.bool true]]).length = ys.length + 1 := by simp
      have hof : reps (L.take (ys.length + 1)) = reps (L.take ys.length) := by rw [htk]; simp
      exact ⟨⟨oa, oc, xs, by rw [hlen]; exact hlt, h2, h3, h4, h5, by rw [hlen, hof]; exact h6, h7⟩, ⟨_, Fr.refl (fun _ => False) _⟩, keepC⟩
  · rintro ys D u hE ⟨oa, oc, xs, h1, h2, h3, h4, h5, h6, h7⟩ hD hd
    rw [hE, List.take_length] at h6
    refine drawR TBok mixed (fun _ => False) (upF 6 0) (by kernel_rfl) fun u1 e1 _ => ?_
    refine tld (B := h2) rfl not_false ?_
    refine tld (B := h2) rfl not_false ?_
    have hl := h6.1
    have hd' := e1.e.nc _ _ hd rfl
    have fin : ∀ (u' : World) (b : Bool), b = decide (0 < (ofI id (reps L)).length) → (∀ B, B ≤ D → Qt B u1 u') → (∃ v' xs', Value.tuple #[.slice oa xs.length oc, .bool b] = .tuple #[v', .bool (decide (0 < (ofI id (reps L)).length))] ∧ Own w.heap.size E.api_Reply u' v' xs' ∧ RepsM u' xs' (ofI id (reps L))) ∧ Stp w u' := fun u' b hb q =>
      ⟨⟨_, xs, by rw [hb], (h5.up (w' := u1)).qt (q 0 (by omega)), (h6.up (w' := u1)).qt (q 0 (by omega))⟩, ⟨(Le.e (a := w) (b := u1)).qt (q _ (by omega))⟩⟩
    refine ite (fun hgt => ?_) (fun hgt => ?_)
    · refine leave1 hd' fun u' q => fin u' true (decide_eq_true (by omega)).symm q
    · refine leave1 hd' fun u' q => fin u' false (decide_eq_false (by omega)).symm q
  · rintro c D u h; exact h.elim
end Go.W
namespace Go.W
open Go Go.Proofs
open Enc (enc)
set_option maxRecDepth 10000

instance : Enc CntD := ⟨2, fun x => [.int .i64 x.code, .int .i64 x.n], fun _ => rfl, by intro x u hu; simp at hu; rcases hu with rfl | rfl <;> rfl, by decide⟩
instance : MKey Try.prog E.api_Errno Int := mkInt (kd := .i64) (by kernel_rfl)
instance : MKey Try.prog E.int Int := mkInt (kd := .i64) (by kernel_rfl)
def cmpE (x y : Int) : Int := if x < y then -1 else if y < x then 1 else 0
theorem cmp_isNaN_Errno_sp {x : Int} {w : World} : Sp Try.prog F.cmp_isNaN_Errno #[.int .i64 x] w fun v w' => v = .bool false ∧ w' = w := by
  refine en TBok rfl ?_
  refine ite (fun h => absurd rfl h) (fun _ => ?_)
  exact ⟨rfl, rfl⟩
theorem cmp_Compare_Errno_sp {x y : Int} {w : World} : Sp Try.prog F.cmp_Compare_Errno #[.int .i64 x, .int .i64 y] w fun v w' => v = .int .i64 (cmpE x y) ∧ w' = w := by
  unfold cmpE
  refine en TBok rfl ?_
  refine rcall (cmp_isNaN_Errno_sp) ?_
  rintro v w1 ⟨rfl, rfl⟩
  refine rcall (cmp_isNaN_Errno_sp) ?_
  rintro v w2 ⟨rfl, rfl⟩
  refine ite (fun h1 => ?_) (fun h1 => ?_)
  · rw [if_pos h1]; exact ⟨rfl, rfl⟩
  rw [if_neg h1]
  refine ite (fun h2 => ?_) (fun h2 => ?_)
  · rw [if_pos h2]; exact ⟨rfl, rfl⟩
  rw [if_neg h2]; exact ⟨rfl, rfl⟩
def cfE (a b : CntD) : Int := cmpE a.code b.code
theorem cfE_neg (a b : CntD) : cfE a b < 0 ↔ a.code < b.code := by
  unfold cfE cmpE
  split
  · rename_i h; simp [h]
  · split <;> simp <;> omega
theorem cfE_swo : Go.Sort.SWO (ltOf cfE) := by
  refine ⟨fun x => ?_, fun x y z h1 h2 => ?_, fun x y z h1 h2 => ?_⟩ <;> simp only [ltOf, decide_eq_false_iff_not, decide_eq_true_eq, cfE_neg] at * <;> omega
theorem stats_Codes_1_sp {a b : CntD} {w : World} : Sp Try.prog F.stats_Codes_1 #[agg a, agg b] w fun v w' => v = .int .i64 (cfE a b) ∧ Gw w w' := by
  refine en TBok rfl ?_
  refine rbx fun ba w1 n1 B1 => rbx fun bb w2 n2 B2 => ?_
  refine rld (B := B1) rfl (rld (B := B2) rfl ?_)
  refine rcall cmp_Compare_Errno_sp ?_
  rintro _ w3 ⟨rfl, rfl⟩
  exact ⟨rfl, n1.gw.trans n2.gw⟩
def ctE (x : CntD) : Int × Value := (x.code, .int .i64 x.n)
set_option maxHeartbeats 2000000 in
theorem stats_Codes_sp {a : Option Addr} {n c : Nat} {L : List ByteArray} {w : World} (h : SlF w (.slice a n c) L) (hL : Short L) :
    Sp Try.prog F.stats_Codes #[.slice a n c] w fun v w' => (∃ v', v = .tuple #[v', .int .i64 ((L.length - (reps L).length : Nat) : Int)] ∧ Own w.heap.size E.api_Count w' v' (codesL (reps L))) ∧ Stp w w' := by
  have hn := hL.1
  have q_ := h.len
  obtain rfl := q_
  refine en TBok rfl ?_
  refine rmkNB (kt := E.api_Errno) (κ := Int) rfl fun bm w1 n1 M1 => ?_
  refine ral fun bn w2 n2 Bn => ral fun bo w3 n3 Bo => ?_
  have hbm := n1.b; have hsm := n1.s; have hbn := n2.b; have hsn := n2.s; have hbo := n3.b; have hso := n3.s
  refine rsto (B := Bn) (vs := [.map (some bm)]) rfl rfl rfl (by simp; rfl) fun w4 Bn4 f4 _ => ?_
  have Bn4 : Bk w4 bn [.map (some bm)] E.map_api_Errno_int := Bn4
  have s4 : Stp w w4 := ⟨Fr.st Le.e f4 fun i hi => by omega⟩
  have Bo4 : Bk w4 bo [.int .i64 0] E.int := Bo.fr f4 (by omega)
  have M4 : MapB Try.prog E.api_Errno w4 bm ([] : List (Int × Value)) := (M1.up (w' := w3)).fr f4 (by omega)
  refine rsto (B := Bo4) (vs := [.int .i64 0]) rfl rfl rfl (int_one _) fun w5 Bo5 f5 z5 => ?_
  have Bo5 : Bk w5 bo [.int .i64 0] E.int := Bo5
  have s5 : Stp w w5 := ⟨Fr.st s4.e f5 fun i hi => by omega⟩
  have Bn5 := Bn4.fr f5 (by omega)
  have M5 := M4.fr f5 (by omega)
  clear Bn Bo M1 Bn4 Bo4 M4
  refine rcall (stats_replies_sp (h.up (w' := w5))) ?_
  rintro v w6 ⟨⟨b1, rfl, hb1, D3⟩, e6⟩
  have z6 := Le.size (a := w5) (b := w6)
  have D0 : RepDat L a c b1 w.heap.size w6 := ⟨D3.s, D3.b, fun hl g hg => (h.blk_lt hl hg)⟩
  clear D3
  have zw := s5.e.size
  refine rrangeG TBok rfl (gf := F.stats_replies_1) (first := []) (cap := [.pointer (some ⟨b1, 0, none⟩)]) (Rc := fun c u => (∃ D, Fr D c u) ∧ Kp (rpX b1 w.heap.size) c u) rfl rfl (replies_seq hL) rx_two (fun u u' h => ⟨_, h⟩)
    (fun ys u => ∃ (m : List (Int × Value)) (od : Nat), ys.length ≤ L.length ∧ Bk u bn [.map (some bm)] E.map_api_Errno_int ∧ Bk u bo [.int .i64 (od : Int)] E.int ∧ RepDat L a c b1 w.heap.size u ∧ MapB Try.prog E.api_Errno u bm m ∧ CntM m (cntC (reps (L.take ys.length))) ∧ (od + (reps (L.take ys.length)).length = ys.length ∧ m.length ≤ ys.length) ∧ Stp w u) (fun _ _ => False)
    ?_ ?_ ?_ ?_ ?_ (fun c u h => h.1) (fun w' e => D0.kp (.of_ext e)) ⟨[], 0, by simp, Bn5.mv, Bo5.mv, D0, M5.up, .nil fun c => by simp [reps, cntC], by simp [reps], stp⟩ ?_ ?_ ?_
  · rintro ys u u' ⟨m, od, h1, h2, h3, h4, h5, h6, h7, h8⟩ q
    exact ⟨m, od, h1, h2.qt q, h3.qt q, h4.kp (.of_qt q), h5.qt q, h6, h7, h8.qt (q.mono (by omega))⟩
  · rintro _ u u' h; exact h.elim
  · rintro ys u u' _ ⟨m, od, h1, h2, h3, h4, h5, h6, h7, h8⟩ q
    exact ⟨m, od, h1, h2.fr q not_false, h3.fr q not_false, h4.kp (.of_ext q), h5.fr q not_false, h6, h7, ⟨h8.e.t q⟩⟩
  · rintro _ u u' _ h; exact h.elim
  · rintro u c u2 u3 q1 ⟨_, r⟩ q2; exact ((Kp.of_qt q1).trans r).trans (.of_qt q2)
  · rintro ys x u ⟨hlt, q, odd, rfl, hx⟩ _ ⟨m, od, h1, h2, h3, h4, h5, h6, h7, h8⟩
    refine ral fun bx v1 m1 z1 => ?_
    refine rsto (B := z1) (vs := enc q) rfl rfl rfl (Enc.one _) fun v2 X2 f2 _ => ?_
    have X2 : Bk v2 bx (enc q) E.api_Reply := X2
    have s2 : Stp u v2 := ⟨Fr.st Le.e f2 fun i hi => by subst hi; exact m1.lo⟩
    refine ⟨s2.e, fun c1 qt => ?_⟩
    have X := X2.qt qt
    have h2 := (h2.mv (w := v2)).qt qt; have h3 := (h3.mv (w := v2)).qt qt
    have h4 := (h4.kp (.of_ext s2.e)).kp (.of_qt qt); have h5 := (h5.up (w' := v2)).qt qt
    have h8 : Stp w c1 := ⟨(h8.e.t s2.e).qt (qt.mono (by omega))⟩
    have hx := (hx.up (w' := v2)).qt qt
    have htk := reps_take hlt
    have hrl := reps_len (L.take ys.length)
    rw [List.length_take] at hrl
    have nx1 : ∀ i, rpX b1 w.heap.size i → ¬ i = bo := fun i hi => by
      rcases hi with rfl | hi
      · intro e; subst e; omega
      · omega
    have nx2 : ∀ i, rpX b1 w.heap.size i → ¬ i = bm := fun i hi => by
      rcases hi with rfl | hi
      · intro e; subst e; omega
      · omega
    rcases hx with ⟨rfl, r, hr, hM⟩ | ⟨rfl, hr⟩
    · rw [hr] at htk
      have htk : reps (L.take (ys.length + 1)) = reps (L.take ys.length) ++ [r] := htk
      have hlen : (ys ++ [[agg q, Value.bool false]]).length = ys.length + 1 := by simp
      refine rld (B := h2) rfl ?_
      refine rld (B := X) rfl ?_
      refine rlook h5.l r.code (by show Value.int .i64 q.code = _; rw [hM.2.1]; rfl) ?_
      have hlk := h6.look r.code
      have hcl := cntC_le (reps (L.take ys.length)) r.code
      have hcs : ∀ c, cntC (reps (L.take (ys.length + 1))) c = cntC (reps (L.take ys.length)) c + if c = r.code then 1 else 0 := fun c => by rw [htk, cntC_snoc]
      have hcr := hcs r.code
      rw [if_pos rfl] at hcr
      have hadd : ∀ {v : Value} {k : Value → World → Prop} {alt : Prop} {pn : List PanicEntry → World → Prop} {u : World}, v = .int .i64 ((cntC (reps (L.take ys.length)) r.code : Nat) : Int) → k (.int .i64 ((cntC (reps (L.take (ys.length + 1))) r.code : Nat) : Int)) u → binS Try.prog .add E.int (.tmp 22) (.const (.int .i64 1)) v (.int .i64 1) k pn u := by
        rintro _ k alt pn u rfl hk
        exact rarE (by omega) (by omega) hk
      refine hadd (alt := True) hlk ?_
      refine rupdB h5 r.code (by show Value.int .i64 q.code = _; rw [hM.2.1]; rfl) fun v3 M3 f3 _ => ?_
      have s3 : Stp w v3 := ⟨Fr.st h8.e f3 fun i hi => by omega⟩
      refine ⟨⟨_, od, by rw [hlen]; exact hlt, h2.fr f3 (by omega), h3.fr f3 (by omega), h4.kp (.of_fr f3 nx2), M3, ?_, ?_, s3⟩, ⟨_, f3⟩, .of_fr f3 nx2⟩
      · rw [hlen]; exact h6.set hcs
      · have := setM_len r.code (.int .i64 ((cntC (reps (L.take (ys.length + 1))) r.code : Nat) : Int)) m
        refine ⟨?_, by rw [hlen]; exact Nat.le_trans this (by have := h7.2; omega)⟩
        rw [hlen, htk, List.length_append, List.length_singleton]; omega
    · rw [hr] at htk
      have htk : reps (L.take (ys.length + 1)) = reps (L.take ys.length) := by rw [htk]; simp
      have hlen : (ys ++ [[agg q, Value.bool true]]).length = ys.length + 1 := by simp
      refine rld (B := h3) rfl ?_
      refine rarE (y := ((od + 1 : Nat) : Int)) (by omega) (by omega) ?_
      refine rsto (B := h3) (vs := [.int .i64 _]) rfl rfl rfl (int_one _) fun v3 O3 f3 _ => ?_
      have O3 : Bk v3 bo [.int .i64 ((od + 1 : Nat) : Int)] E.int := O3
      have s3 : Stp w v3 := ⟨Fr.st h8.e f3 fun i hi => by omega⟩
      refine ⟨⟨m, od + 1, by rw [hlen]; exact hlt, h2.fr f3 (by omega), O3, h4.kp (.of_fr f3 nx1), h5.fr f3 (by omega), ?_, ?_, s3⟩, ⟨_, f3⟩, .of_fr f3 nx1⟩
      · rw [hlen, htk]; exact h6
      · rw [hlen, htk]; omega
  · rintro ys D u hE ⟨m, od, h1, h2, h3, h4, h5, h6, h7, h8⟩ hD hd
    rw [hE, List.take_length] at h6 h7
    have hnd := h5.2
    have hml : m.length ≤ 1000000 := by have := h7.2; omega
    have h7 := h7.1
    refine rld (B := h2) rfl ?_
    refine rnx rfl (rrangeM h5 fun r v1 nr It0 _ => ?_)
    have hr := nr.b
    have hbr : bo < r := by have := h3.lt; omega
    have hwr := h8.e.size
    have hd1 := nr.e.nc _ _ hd rfl
    refine loop1 TBok 26 [9, 10] 8 (fun v u => ∃ (oa : Option Addr) (oc : Nat) (xs : List CntD) (rest : List (Int × Value)), v = .slice oa xs.length oc ∧ Own w.heap.size E.api_Count u (.slice oa xs.length oc) xs ∧ ItB Try.prog E.api_Errno u r bm rest ∧ (xs.map ctE ++ rest).Perm m ∧ Bk u bo [.int .i64 (od : Int)] E.int ∧ u.heap[D]? = some (.deferred (some [])) ∧ Stp w u)
      (fun v _ => m.length - (match v with | .slice _ n _ => n | _ => 0)) rfl ⟨none, 0, [], m, rfl, Own.nil _ _ _, It0, .refl _, h3.mv, hd1, stp⟩ ?_
    rintro _ g u1 ⟨oa, oc, xs, rest, rfl, O, It, hp, k3, kd, ks⟩
    refine rnx rfl (rnextM It (fun hrest => ?_) fun x v rest' u2 hp2 hC f2 _ => ?_)
    · subst hrest
      rw [List.append_nil] at hp
      have hxl := hp.length_eq
      rw [List.length_map] at hxl
      refine rcall (sort_sp Try.sortC (k := 2) (show Agg Try.prog E.api_Count 2 from inferInstance) rfl cfE cfE_swo (f := F.slices_SortFunc_Count) rfl (fun x y W => stats_Codes_1_sp) O (by omega)) ?_
      rintro _ u2 ⟨rfl, l', hp', hs', O2, f2⟩
      have k2 := k3.fro O f2 (by decide)
      have hd2 := f2.nc _ _ kd rfl
      have s2 : Stw w u1 u2 := ownD_stw f2
      have hcodes : (l'.map (·.code)).Nodup := by
        rw [(hp'.map _).nodup_iff]
        have : xs.map (·.code) = (xs.map ctE).map (·.1) := by rw [List.map_map]; rfl
        rw [this, (hp.map _).nodup_iff]; exact hnd
      have hl' : l' = codesL (reps L) := by
        refine rise_ext (·.code) ?_ (codes_rise _) fun x => ?_
        · have h1 := List.pairwise_map.1 hcodes
          refine (hs'.and h1).imp fun {a b} ⟨g1, g2⟩ => ?_
          have : ¬ b.code < a.code := fun hlt => g1 ((cfE_neg _ _).2 hlt)
          have : a.code ≠ b.code := g2
          omega
        · rw [hp'.mem_iff, codes_mem reps_ok]
          have : x ∈ xs ↔ ctE x ∈ m := by
            rw [← hp.mem_iff, List.mem_map]
            constructor
            · intro hx; exact ⟨x, hx, rfl⟩
            · rintro ⟨y, hy, he⟩
              have : y = x := by
                unfold ctE at he
                injection he with e1 e2
                injection e2 with _ e2
                cases x; cases y; simp only at e1 e2; subst e1 e2; rfl
              rw [← this]; exact hy
          rw [this]
          unfold ctE
          rw [h6.mem hnd]
          simp
      rw [hl'] at O2
      refine drawR TBok mixed (fun _ => False) (upF 4 0) (by kernel_rfl) fun u3 e3 _ => ?_
      refine tld (B := k2) rfl not_false ?_
      refine leave1 (e3.e.nc _ _ hd2 rfl) fun u' q => ?_
      have hod : (od : Int) = ((L.length - (reps L).length : Nat) : Int) := by omega
      have hv : Value.tuple #[.slice oa xs.length oc, .int .i64 (od : Int)] = .tuple #[.slice oa xs.length oc, .int .i64 ((L.length - (reps L).length : Nat) : Int)] := by rw [hod]
      exact ⟨⟨_, hv, (O2.up (w' := u3)).qt (q 0 (by omega))⟩, ⟨(Le.e (a := w) (b := u3)).qt (q _ (by omega))⟩⟩
    · have hxm : (x, v) ∈ m := hp.mem_iff.1 (List.mem_append.2 (.inr (hp2.mem_iff.1 List.mem_cons_self)))
      have q_ := (h6.mem hnd x v).1 hxm
      obtain ⟨hx0, rfl⟩ := q_
      refine rnx rfl (rentryM hC ?_)
      refine rbuild (cs := [.int .i64 x, .int .i64 ((cntC (reps L) x : Nat) : Int)]) rfl ?_
      have O2 := O.frI f2 It.obj.choose_spec.1 It.obj.choose_spec.2.1
      have k2 := k3.fr f2 (by omega)
      have s2 : Stp w u2 := ⟨Fr.st ks.e f2 fun i hi => by omega⟩
      refine rbs1 (α := CntD) ⟨x, ((cntC (reps L) x : Nat) : Int)⟩ rfl rfl (by decide) fun b6 u3 e6 _ S6 => ?_
      have hxs : xs.length + rest.length = m.length := by have := hp.length_eq; simpa using this
      have hrs : rest'.length + 1 = rest.length := by have := hp2.length_eq; simpa using this
      refine rapp1 (u := w) ⟨rfl, rfl⟩ (O2.up (w' := u3)) S6 (by omega) fun v7 u4 O7 f7 s7 => ?_
      have I7 := (hC.b.up (w' := u3)).fro (O2.up (w' := u3)) f7
      have k7 := (k2.mv (w := u3)).fro (O2.up (w' := u3)) f7 (by decide)
      have q7 := O7.shape
      obtain ⟨a7, c7, rfl⟩ := q7
      refine ⟨⟨a7, c7, _, rest', rfl, O7, I7, ?_, k7, f7.nc _ _ (e6.e.nc _ _ (f2.nc _ _ kd rfl) rfl) rfl, stp⟩, ?_⟩
      · refine List.Perm.trans ?_ hp
        rw [List.map_append, List.append_assoc]
        exact List.Perm.append_left _ hp2
      · show m.length - (xs ++ [_]).length < m.length - xs.length
        simp; omega
  · rintro c D u h; exact h.elim
end Go.W
namespace Go.W
open Go Go.Proofs
open Enc (enc)
set_option maxRecDepth 10000

set_option maxHeartbeats 1000000 in
theorem stats_many_sp {a : Option Addr} {n c : Nat} {L : List ByteArray} {w : World} (h : SlF w (.slice a n c) L) (hL : Short L) :
    Sp Try.prog F.stats_many #[.slice a n c] w fun v w' => (∃ bm m, v = .map (some bm) ∧ w.heap.size ≤ bm ∧ MapB Try.prog E.int w' bm m ∧ CntM m (cntI (reps L)) ∧ m.length ≤ L.length) ∧ Stp w w' := by
  have hn := hL.1
  have q_ := h.len
  obtain rfl := q_
  refine en TBok rfl ?_
  refine rmkNB (kt := E.int) (κ := Int) rfl fun bm w1 n1 M1 => ?_
  refine ral fun bn w2 n2 Bn => ?_
  have hbm := n1.b; have hsm := n1.s; have hbn := n2.b; have hsn := n2.s
  refine rsto (B := Bn) (vs := [.map (some bm)]) rfl rfl rfl (by simp; rfl) fun w4 Bn4 f4 _ => ?_
  have Bn4 : Bk w4 bn [.map (some bm)] E.map_int_int := Bn4
  have s4 : Stp w w4 := ⟨Fr.st Le.e f4 fun i hi => by omega⟩
  have M4 : MapB Try.prog E.int w4 bm ([] : List (Int × Value)) := (M1.up (w' := w2)).fr f4 (by omega)
  clear Bn M1
  refine rcall (stats_replies_sp (h.up (w' := w4))) ?_
  rintro v w6 ⟨⟨b1, rfl, hb1, D3⟩, e6⟩
  have z6 := Le.size (a := w4) (b := w6)
  have D0 : RepDat L a c b1 w.heap.size w6 := ⟨D3.s, D3.b, fun hl g hg => (h.blk_lt hl hg)⟩
  clear D3
  have zw := s4.e.size
  have z2 := f4.size
  refine rrangeG TBok rfl (gf := F.stats_replies_1) (first := []) (cap := [.pointer (some ⟨b1, 0, none⟩)]) (Rc := fun c u => (∃ D, Fr D c u) ∧ Kp (rpX b1 w.heap.size) c u) rfl rfl (replies_seq hL) rx_two (fun u u' h => ⟨_, h⟩)
    (fun ys u => ∃ (m : List (Int × Value)), ys.length ≤ L.length ∧ Bk u bn [.map (some bm)] E.map_int_int ∧ RepDat L a c b1 w.heap.size u ∧ MapB Try.prog E.int u bm m ∧ CntM m (cntI (reps (L.take ys.length))) ∧ m.length ≤ ys.length ∧ Stp w u) (fun _ _ => False)
    ?_ ?_ ?_ ?_ ?_ (fun c u h => h.1) (fun w' e => D0.kp (.of_ext e)) ⟨[], by simp, Bn4.mv, D0, M4.up, .nil fun c => by simp [reps, cntI], by simp, stp⟩ ?_ ?_ ?_
  · rintro ys u u' ⟨m, h1, h2, h4, h5, h6, h7, h8⟩ q
    exact ⟨m, h1, h2.qt q, h4.kp (.of_qt q), h5.qt q, h6, h7, h8.qt (q.mono (by omega))⟩
  · rintro _ u u' h; exact h.elim
  · rintro ys u u' _ ⟨m, h1, h2, h4, h5, h6, h7, h8⟩ q
    exact ⟨m, h1, h2.fr q not_false, h4.kp (.of_ext q), h5.fr q not_false, h6, h7, ⟨h8.e.t q⟩⟩
  · rintro _ u u' _ h; exact h.elim
  · rintro u c u2 u3 q1 ⟨_, r⟩ q2; exact ((Kp.of_qt q1).trans r).trans (.of_qt q2)
  · rintro ys x u ⟨hlt, q, odd, rfl, hx⟩ _ ⟨m, h1, h2, h4, h5, h6, h7, h8⟩
    refine ral fun bx v1 m1 z1 => ?_
    refine rsto (B := z1) (vs := enc q) rfl rfl rfl (Enc.one _) fun v2 X2 f2 _ => ?_
    have X2 : Bk v2 bx (enc q) E.api_Reply := X2
    have s2 : Stp u v2 := ⟨Fr.st Le.e f2 fun i hi => by subst hi; exact m1.lo⟩
    refine ⟨s2.e, fun c1 qt => ?_⟩
    have X := X2.qt qt
    have h2 := (h2.mv (w := v2)).qt qt
    have h4 := (h4.kp (.of_ext s2.e)).kp (.of_qt qt); have h5 := (h5.up (w' := v2)).qt qt
    have h8 : Stp w c1 := ⟨(h8.e.t s2.e).qt (qt.mono (by omega))⟩
    have hx := (hx.up (w' := v2)).qt qt
    have htk := reps_take hlt
    have hrl := reps_len (L.take ys.length)
    rw [List.length_take] at hrl
    have nx2 : ∀ i, rpX b1 w.heap.size i → ¬ i = bm := fun i hi => by
      rcases hi with rfl | hi
      · intro e; subst e; omega
      · omega
    rcases hx with ⟨rfl, r, hr, hM⟩ | ⟨rfl, hr⟩
    · rw [hr] at htk
      have htk : reps (L.take (ys.length + 1)) = reps (L.take ys.length) ++ [r] := htk
      have hlen : (ys ++ [[agg q, Value.bool false]]).length = ys.length + 1 := by simp
      refine rld (B := h2) rfl ?_
      refine rld (B := X) rfl ?_
      refine rlook h5.l r.id (by show Value.int .i64 q.id = _; rw [hM.1]; rfl) ?_
      have hlk := h6.look r.id
      have hcl := cntI_le (reps (L.take ys.length)) r.id
      have hcs : ∀ c, cntI (reps (L.take (ys.length + 1))) c = cntI (reps (L.take ys.length)) c + if c = r.id then 1 else 0 := fun c => by rw [htk, cntI_snoc]
      have hcr := hcs r.id
      rw [if_pos rfl] at hcr
      have hadd : ∀ {v : Value} {k : Value → World → Prop} {alt : Prop} {pn : List PanicEntry → World → Prop} {u : World}, v = .int .i64 ((cntI (reps (L.take ys.length)) r.id : Nat) : Int) → k (.int .i64 ((cntI (reps (L.take (ys.length + 1))) r.id : Nat) : Int)) u → binS Try.prog .add E.int (.tmp 16) (.const (.int .i64 1)) v (.int .i64 1) k pn u := by
        rintro _ k alt pn u rfl hk
        exact rarE (by omega) (by omega) hk
      refine hadd (alt := True) hlk ?_
      refine rupdB h5 r.id (by show Value.int .i64 q.id = _; rw [hM.1]; rfl) fun v3 M3 f3 _ => ?_
      have s3 : Stp w v3 := ⟨Fr.st h8.e f3 fun i hi => by omega⟩
      refine ⟨⟨_, by rw [hlen]; exact hlt, h2.fr f3 (by omega), h4.kp (.of_fr f3 nx2), M3, ?_, ?_, s3⟩, ⟨_, f3⟩, .of_fr f3 nx2⟩
      · rw [hlen]; exact h6.set hcs
      · have := setM_len r.id (.int .i64 ((cntI (reps (L.take (ys.length + 1))) r.id : Nat) : Int)) m
        rw [hlen]; exact Nat.le_trans this (by omega)
    · rw [hr] at htk
      have htk : reps (L.take (ys.length + 1)) = reps (L.take ys.length) := by rw [htk]; simp
      have hlen : (ys ++ [[agg q, Value.bool true]]).length = ys.length + 1 := by simp
      refine ⟨⟨m, by rw [hlen]; exact hlt, h2, h4, h5, ?_, by rw [hlen]; omega, h8⟩, ⟨_, Fr.refl (fun _ => False) _⟩, .of_ext (Fr.refl _ _)⟩
      rw [hlen, htk]; exact h6
  · rintro ys D u hE ⟨m, h1, h2, h4, h5, h6, h7, h8⟩ hD hd
    rw [hE, List.take_length] at h6
    rw [hE] at h7
    refine rld (B := h2) rfl ?_
    refine leave1 hd fun u' q => ?_
    exact ⟨⟨bm, m, rfl, by omega, h5.qt (q 0 (by omega)), h6, h7⟩, h8.qt (q _ (by omega))⟩
  · rintro c D u h; exact h.elim
set_option maxHeartbeats 1000000 in
theorem stats_Once_sp {a : Option Addr} {n c : Nat} {L : List ByteArray} {w : World} (h : SlF w (.slice a n c) L) (hL : Short L) :
    Sp Try.prog F.stats_Once #[.slice a n c] w fun v w' => Tells (∀ i, cntI (reps L) i ≤ 1) v ∧ Stp w w' := by
  refine en TBok rfl ?_
  refine rcall (stats_many_sp h hL) ?_
  rintro _ w1 ⟨⟨bm, m, rfl, hbm, M, hC, hl⟩, e1⟩
  refine rnx rfl (rrangeM M fun r v1 nr It0 _ => ?_)
  have hr := nr.b
  have z1 := e1.e.size
  have hnd := M.2
  refine loop0G TBok 8 [2, 3, 4] (fun i u => ∃ done rest : List (Int × Value), rest.length = i ∧ (done ++ rest).Perm m ∧ (∀ x ∈ done, cntI (reps L) x.1 ≤ 1) ∧ ItB Try.prog E.int u r bm rest ∧ Stp w u) rfl ⟨_, [], m, rfl, .refl _, by simp, It0, stp⟩ ?_
  rintro i g u ⟨done, rest, hi, hp, hone, It, s⟩
  refine rnx rfl (rnextM It (fun hrest => ?_) fun x v rest' u2 hp2 hCx f2 _ => ?_)
  · subst hrest
    rw [List.append_nil] at hp
    refine ⟨.t fun i => ?_, s⟩
    by_cases h0 : cntI (reps L) i = 0
    · omega
    · have := (hC.mem hnd i _).2 ⟨h0, rfl⟩
      exact hone _ (hp.mem_iff.2 this)
  · have hxm : (x, v) ∈ m := hp.mem_iff.1 (List.mem_append.2 (.inr (hp2.mem_iff.1 List.mem_cons_self)))
    have q_ := (hC.mem hnd x v).1 hxm
    obtain ⟨hx0, rfl⟩ := q_
    have s2 : Stp w u2 := ⟨Fr.st s.e f2 fun i hi => by omega⟩
    refine rnx rfl (rentryM hCx ?_)
    refine ite (fun hgt => ⟨.f fun hall => by have := hall x; omega, s2⟩) (fun hle => ?_)
    have hrs : rest'.length + 1 = rest.length := by have := hp2.length_eq; simpa using this
    refine ⟨rest'.length, by omega, done ++ [(x, .int .i64 ((cntI (reps L) x : Nat) : Int))], rest', rfl, ?_, fun y hy => ?_, hCx.b, s2⟩
    · refine List.Perm.trans ?_ hp
      rw [List.append_assoc]
      exact List.Perm.append_left _ hp2
    · have q_ := List.mem_append.1 hy
      rcases q_ with hy | hy
      · exact hone y hy
      · rw [List.mem_singleton.1 hy]; show cntI (reps L) x ≤ 1; omega
/-! keys of a map, one by one -/
abbrev kyV (k : Int) : List Value := [.int .i64 k]
theorem kyV_inj : ∀ {a b : List Int}, a.map kyV = b.map kyV → a = b
  | [], [], _ => rfl
  | [], _ :: _, h => by simp at h
  | _ :: _, [], h => by simp at h
  | x :: a, y :: b, h => by
    simp only [List.map_cons, List.cons.injEq] at h
    obtain ⟨h1, h2⟩ := h
    have e : x = y := by simpa [kyV] using h1
    rw [e, kyV_inj h2]
theorem keys_seq {b1 bm B : Nat} {m : List (Int × Value)} : SeqG Try.prog F.maps_Keys_int_1 [] [.pointer (some ⟨b1, 0, none⟩)] (ItQ B) (ItR b1) (fun u => B ≤ u.heap.size ∧ Bk u b1 [.map (some bm)] E.map_int_int ∧ MapB Try.prog E.int u bm m)
    (fun ys x _ => ∃ (ks : List Int) (k : Int) (rest : List Int), ys = ks.map kyV ∧ x = kyV k ∧ (ks ++ k :: rest).Perm (m.map (·.1))) (fun ys => ∃ ks : List Int, ys = ks.map kyV ∧ ks.Perm (m.map (·.1))) := by
  refine ⟨fun y J Jx w hJ hJx hY h0 ⟨hB, Bm, M⟩ => ?_⟩
  refine en TBok rfl ?_
  refine rld (B := Bm) rfl ?_
  refine rnx rfl (rrangeM M fun r v1 nr It0 _ => ?_)
  have hr := nr.b
  refine loop0G TBok 6 [2, 3] (fun i u => ∃ (ks : List Int) (rest : List (Int × Value)), rest.length = i ∧ J (ks.map kyV) u ∧ (ks ++ rest.map (·.1)).Perm (m.map (·.1)) ∧ ItB Try.prog E.int u r bm rest) rfl ⟨_, [], m, rfl, hJ _ _ _ h0 (Fr.fr nr.e), .refl _, It0⟩ ?_
  rintro i g u ⟨ks, rest, hi, hj, hp, It⟩
  refine rnx rfl (rnextM It (fun hrest => ?_) fun x v rest' u2 hp2 hCx f2 _ => ?_)
  · subst hrest
    rw [List.map_nil, List.append_nil] at hp
    exact .inl ⟨_, ⟨ks, rfl, hp⟩, hj⟩
  · refine rnx rfl (rentryM hCx ?_)
    have hpp : (ks ++ x :: rest'.map (·.1)).Perm (m.map (·.1)) := by
      refine List.Perm.trans (List.Perm.append_left _ ?_) hp
      exact hp2.map (·.1)
    have hj2 := hJ _ _ _ hj (It.itq f2 (B := B) (by omega))
    refine ryield (vs := kyV x) rfl rfl rfl rfl (hY _ u2 _ ⟨ks, x, _, rfl, rfl, hpp⟩ hj2) ?_
    rintro bb u4 ⟨⟨rfl, hj4⟩ | ⟨rfl, hx4⟩, hK⟩
    · have hrs : rest'.length + 1 = rest.length := by have := hp2.length_eq; simpa using this
      exact ⟨rest'.length, by omega, ks ++ [x], rest', rfl, by simpa using hj4, by simpa using hpp, hCx.b.itr hK⟩
    · exact .inr hx4
theorem maps_Keys_sp {bm : Nat} {w : World} : Sp Try.prog F.maps_Keys_int #[.map (some bm)] w fun v w' => (∃ b1, v = .func (.func F.maps_Keys_int_1) #[] #[.pointer (some ⟨b1, 0, none⟩)] ∧ w.heap.size ≤ b1 ∧ Bk w' b1 [.map (some bm)] E.map_int_int) ∧ Stp w w' := by
  refine en TBok rfl ?_
  refine rbx fun b1 w1 n1 B1 => ?_
  exact ⟨⟨b1, rfl, n1.lo, B1⟩, stp⟩
set_option maxHeartbeats 1000000 in
theorem slices_AppendSeq_sp {b1 bm : Nat} {m : List (Int × Value)} {w : World} (B1 : Bk w b1 [.map (some bm)] E.map_int_int) (M : MapB Try.prog E.int w bm m) (hm : m.length ≤ 1000000) :
    Sp Try.prog F.slices_AppendSeq_int #[.slice none 0 0, .func (.func F.maps_Keys_int_1) #[] #[.pointer (some ⟨b1, 0, none⟩)]] w fun v w' => (∃ ks : List Int, ks.Perm (m.map (·.1)) ∧ Own w.heap.size E.int w' v ks) ∧ Stp w w' := by
  refine en TBok rfl ?_
  refine rbx fun bs w1 n1 Bs => ?_
  have hbs := n1.b; have hss := n1.s
  have hb1 := B1.lt
  refine rrangeG TBok rfl (gf := F.maps_Keys_int_1) (first := []) (cap := [.pointer (some ⟨b1, 0, none⟩)]) (Rc := fun c u => (∃ D, Fr D c u) ∧ ItR b1 c u) rfl rfl (keys_seq (b1 := b1) (bm := bm) (B := w.heap.size) (m := m)) (by rintro ys x u ⟨_, _, _, _, rfl, _⟩; rfl) (fun u u' h => ⟨_, h⟩)
    (fun ys u => ∃ (ks : List Int) (oa : Option Addr) (oc : Nat), ys = ks.map kyV ∧ Bk u bs [.slice oa ks.length oc] E.s_int ∧ Bk u b1 [.map (some bm)] E.map_int_int ∧ Own w.heap.size E.int u (.slice oa ks.length oc) ks ∧ ks.length ≤ m.length ∧ Stp w u) (fun _ _ => False)
    ?_ ?_ ?_ ?_ ?_ (fun c u h => h.1) (fun w' e => ⟨by have := e.size; omega, (B1.mv (w := w1)).fr e id, (M.up (w' := w1)).fr e id⟩) ⟨[], none, 0, rfl, Bs, B1.mv, Own.nil _ _ _, by simp, stp⟩ ?_ ?_ ?_
  · rintro ys u u' ⟨ks, oa, oc, h1, h2, h3, h4, h5, h6⟩ q
    exact ⟨ks, oa, oc, h1, h2.qt q, h3.qt q, h4.qt q, h5, h6.qt (q.mono (by omega))⟩
  · rintro _ u u' h; exact h.elim
  · rintro ys u u' _ ⟨ks, oa, oc, h1, h2, h3, h4, h5, h6⟩ q
    exact ⟨ks, oa, oc, h1, h2.itq q, h3.itq q, h4.itq q, h5, ⟨Fr.st h6.e q fun i hi => hi.1⟩⟩
  · rintro _ u u' _ h; exact h.elim
  · rintro u c u2 u3 q1 ⟨_, r⟩ q2; exact ((ItR.of_qt q1).trans r).trans (.of_qt q2)
  · rintro ys x u ⟨ks', k, rest, hys, rfl, hp⟩ _ ⟨ks, oa, oc, h1, h2, h3, h4, h5, h6⟩
    have hkk : ks = ks' := by
      exact kyV_inj (h1.symm.trans hys)
    subst hkk
    refine ⟨Fr.refl _ _, fun c1 qt => ?_⟩
    have h2 := h2.qt qt; have h3 := h3.qt qt; have h4 := h4.qt qt; have h6 := h6.qt (qt.mono (by omega))
    have hlen := hp.length_eq
    simp only [List.length_append, List.length_cons, List.length_map] at hlen
    refine rld (B := h2) rfl ?_
    refine rbs1 k rfl rfl (by decide) fun b6 u3 e6 _ S6 => ?_
    refine rapp1 (u := w) ⟨rfl, rfl⟩ (h4.up (w' := u3)) S6 (by omega) fun v7 u4 O7 f7 s7 => ?_
    have k2 := (h2.mv (w := u3)).fro (h4.up (w' := u3)) f7 (by decide)
    have k3 := (h3.mv (w := u3)).fro (h4.up (w' := u3)) f7 (by decide)
    have nb := (h3.mv (w := u3)).notOwn (B' := w.heap.size) (h4.up (w' := u3)) (by decide)
    have q7 := O7.shape
    obtain ⟨a7, c7, rfl⟩ := q7
    refine rsto (B := k2) (vs := [.slice a7 _ c7]) rfl rfl rfl (sl1 _ _ _) fun u5 B5 f5 _ => ?_
    have s5 : Stp w u5 := ⟨Fr.st Le.e f5 fun i hi => by omega⟩
    refine ⟨⟨ks ++ [k], a7, c7, by rw [h1]; simp, B5, k3.fr f5 (by omega), O7.frc f5 k2 (by decide), by simp; omega, s5⟩, ⟨_, ((Fr.fr e6.e).trans (f7.mono fun i _ hi => (.inl hi : ownD w.heap.size (.slice oa ks.length oc) i ∨ i = bs))).trans (f5.mono fun i _ hi => .inr hi)⟩, ((ItR.of_ext e6.e).trans (.of_own f7 (h4.up (w' := u3)) nb)).trans (.of_cell f5 k2 (by omega))⟩
  · rintro ys D u ⟨ks', hys, hp⟩ ⟨ks, oa, oc, h1, h2, h3, h4, h5, h6⟩ hD hd
    have hkk : ks = ks' := by
      exact kyV_inj (h1.symm.trans hys)
    subst hkk
    refine rld (B := h2) rfl ?_
    refine leave1 hd fun u' q => ?_
    exact ⟨⟨ks, hp, h4.qt (q 0 (by omega))⟩, h6.qt (q _ (by omega))⟩
  · rintro c D u h; exact h.elim
theorem stats_Ids_sp {a : Option Addr} {n c : Nat} {L : List ByteArray} {w : World} (h : SlF w (.slice a n c) L) (hL : Short L) :
    Sp Try.prog F.stats_Ids #[.slice a n c] w fun v w' => Own w.heap.size E.int w' v (idsL (reps L)) ∧ Stp w w' := by
  refine en TBok rfl ?_
  refine rcall (stats_many_sp h hL) ?_
  rintro _ w1 ⟨⟨bm, m, rfl, hbm, M, hC, hl⟩, e1⟩
  refine rcall maps_Keys_sp ?_
  rintro _ w2 ⟨⟨b1, rfl, hb1, B1⟩, e2⟩
  have hsort : Sp Try.prog F.slices_Sorted_int #[.func (.func F.maps_Keys_int_1) #[] #[.pointer (some ⟨b1, 0, none⟩)]] w2 fun v w' => Own w.heap.size E.int w' v (idsL (reps L)) ∧ Stp w2 w' := by
    refine en TBok rfl ?_
    have hcol : Sp Try.prog F.slices_Collect_int #[.func (.func F.maps_Keys_int_1) #[] #[.pointer (some ⟨b1, 0, none⟩)]] w2 fun v w' => (∃ ks : List Int, ks.Perm (m.map (·.1)) ∧ Own w2.heap.size E.int w' v ks) ∧ Stp w2 w' := by
      refine en TBok rfl ?_
      refine rcall (slices_AppendSeq_sp B1 M.up (by have := hL.1; omega)) ?_
      rintro v w3 ⟨⟨ks, hp, O⟩, e3⟩
      exact ⟨⟨ks, hp, O⟩, e3⟩
    refine rcall hcol ?_
    rintro v w3 ⟨⟨ks, hp, O⟩, e3⟩
    have hkl := hp.length_eq
    rw [List.length_map] at hkl
    have hL1 := hL.1
    refine rcall (sortI_sp Try.sortI (f := F.slices_Sort_int) rfl O (by omega)) ?_
    rintro _ w4 ⟨rfl, O4, f4⟩
    have s4 : Stw w2 w3 w4 := ownD_stw f4
    have hk : srtI ks = idsL (reps L) := by
      refine rise_ext (fun x => x) ?_ (rising_spec _).1 fun x => ?_
      · have hnd : (srtI ks).Nodup := (srtI_perm ks).nodup_iff.2 (hp.nodup_iff.2 M.2)
        exact ((srtI_rise ks).and hnd).imp fun {a b} ⟨g1, g2⟩ => by have : a ≠ b := g2; omega
      · rw [(srtI_perm ks).mem_iff, hp.mem_iff, ids_mem, List.mem_map]
        constructor
        · rintro ⟨⟨c, v⟩, hm, rfl⟩
          exact ((hC.mem M.2 c v).1 hm).1
        · intro h0
          exact ⟨(x, _), (hC.mem M.2 x _).2 ⟨h0, rfl⟩, rfl⟩
    rw [hk] at O4
    exact ⟨O4.older, stp⟩
  refine rcall hsort ?_
  rintro v w3 ⟨O, e3⟩
  exact ⟨O, stp⟩
end Go.W
