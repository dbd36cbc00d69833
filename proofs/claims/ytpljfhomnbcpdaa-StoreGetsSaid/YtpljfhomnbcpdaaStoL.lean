/-
  Proved here: stores: states by where they stand, told as a row of states that rises by keys (plain facts).
  Conditions: those that each fact names.
-/
import Derived.Test.YtpljfhomnbcpdaaTabR0
import Derived.Test.YtpljfhomnbcpdaaPoolR
namespace Go.W
open Go

structure StD where
  key : KeyD
  d : Int
deriving DecidableEq
def zSt : StD := ⟨zKey, 0⟩
def mayX (x : StD) : Prop := mayK x.key ∧ 0 ≤ x.d ∧ x.d ≤ 200
instance (x : StD) : Decidable (mayX x) := by unfold mayX; exact inferInstance
abbrev SRis (L : List StD) : Prop := L.Pairwise (fun a b => lessK a.key b.key)
theorem SRis.nodup {L : List StD} (h : SRis L) : L.Nodup := by
  rw [List.nodup_iff_pairwise_ne]
  exact h.imp fun {a b} h e => lessK_ne h (congrArg StD.key e)
theorem SRis.inj {L : List StD} (h : SRis L) {x y : StD} (hx : x ∈ L) (hy : y ∈ L) (e : x.key = y.key) : x = y := by
  have q_ := List.mem_iff_getElem.1 hx
  obtain ⟨i, hi, rfl⟩ := q_
  have q_ := List.mem_iff_getElem.1 hy
  obtain ⟨j, hj, rfl⟩ := q_
  have q_ := Nat.lt_trichotomy i j
  rcases q_ with h1 | rfl | h1
  · exact absurd e (lessK_ne (List.pairwise_iff_getElem.1 h i j hi hj h1))
  · rfl
  · exact absurd e.symm (lessK_ne (List.pairwise_iff_getElem.1 h j i hj hi h1))
theorem SRis.uniq {L M : List StD} (h : SRis L) (k : SRis M) (e : ∀ x, x ∈ L ↔ x ∈ M) : L = M := by
  have hk : L.map (·.key) = M.map (·.key) := RisK.uniq (List.pairwise_map.2 h) (List.pairwise_map.2 k) fun q => by
    simp only [List.mem_map]
    exact ⟨fun ⟨x, hx, hq⟩ => ⟨x, (e x).1 hx, hq⟩, fun ⟨x, hx, hq⟩ => ⟨x, (e x).2 hx, hq⟩⟩
  have hl : L.length = M.length := by have := congrArg List.length hk; simpa using this
  apply List.ext_getElem hl
  intro i h1 h2
  refine k.inj ((e _).1 (List.getElem_mem h1)) (List.getElem_mem h2) ?_
  have := congrArg (fun l => l[i]?) hk
  simpa [h1, h2] using this

/-- a state put in its place -/
def insS (x : StD) : List StD → List StD
  | [] => [x]
  | y :: r => if lessK y.key x.key then y :: insS x r else x :: y :: r
theorem insS_perm (x : StD) : ∀ L, (insS x L).Perm (x :: L)
  | [] => .refl _
  | y :: r => by
    unfold insS
    split
    · exact ((insS_perm x r).cons y).trans (.swap ..)
    · exact .refl _
theorem insS_ris (x : StD) : ∀ {L}, SRis L → (∀ y ∈ L, y.key ≠ x.key) → SRis (insS x L)
  | [], _, _ => by simp [insS]
  | y :: r, h, hn => by
    rw [SRis, List.pairwise_cons] at h
    unfold insS
    split
    · rename_i hyx
      refine List.pairwise_cons.2 ⟨fun z hz => ?_, insS_ris x h.2 fun z hz => hn z (List.mem_cons_of_mem _ hz)⟩
      have q_ := List.mem_cons.1 ((insS_perm x r).mem_iff.1 hz)
      rcases q_ with rfl | hz
      · exact hyx
      · exact h.1 z hz
    · rename_i hyx
      have hxy := lessK_tri hyx (hn y (List.mem_cons_self ..))
      refine List.pairwise_cons.2 ⟨fun z hz => ?_, List.pairwise_cons.2 h⟩
      have q_ := List.mem_cons.1 hz
      rcases q_ with rfl | hz
      · exact hxy
      · exact lessK_trans hxy (h.1 z hz)
theorem insS_at (x : StD) : ∀ (L : List StD) (i : Nat), i ≤ L.length → (∀ j, j < i → (hj : j < L.length) → lessK L[j].key x.key) → ((hi : i < L.length) → ¬ lessK L[i].key x.key) → insS x L = L.take i ++ x :: L.drop i
  | [], i, hi, _, _ => by have : i = 0 := by simpa using hi
                          subst this; rfl
  | y :: r, 0, _, _, h => by
    have := h (by simp)
    unfold insS; rw [if_neg (by simpa using this)]; rfl
  | y :: r, i + 1, hi, hb, h => by
    have h0 := hb 0 (by omega) (by simp)
    unfold insS; rw [if_pos (by simpa using h0)]
    rw [insS_at x r i (by simpa using hi) (fun j hj hjl => by have := hb (j + 1) (by omega) (by simpa using hjl); simpa using this) (fun hil => by have := h (by simpa using hil); simpa using this)]
    rfl

/-! what a store tells: a row of states that rises, and how many may be -/
def hasS (L : List StD) (k : KeyD) : Option StD := L.find? fun x => decide (x.key = k)
theorem hasS_some {L : List StD} (h : SRis L) {k : KeyD} {x : StD} : hasS L k = some x ↔ x ∈ L ∧ x.key = k := by
  constructor
  · intro e
    unfold hasS at e
    exact ⟨List.mem_of_find?_eq_some e, by simpa using List.find?_some e⟩
  · rintro ⟨hx, hk⟩
    cases e : hasS L k with
    | none =>
      unfold hasS at e
      have := List.find?_eq_none.1 e x hx
      simp [hk] at this
    | some y =>
      unfold hasS at e
      have hy := List.mem_of_find?_eq_some e
      have hyk : y.key = k := by simpa using List.find?_some e
      rw [h.inj hy hx (hyk.trans hk.symm)]
theorem hasS_none {L : List StD} {k : KeyD} : hasS L k = none ↔ ∀ x ∈ L, x.key ≠ k := by
  unfold hasS; rw [List.find?_eq_none]; simp
def putS' (size : Nat) (L : List StD) (x : StD) : List StD × Int :=
  if mayX x then (match hasS L x.key with
    | some _ => (L, 150)
    | none => if size ≤ L.length then (L, 140) else (insS x L, 0))
  else (L, 1)
def getS' (L : List StD) (k : KeyD) : Int × Bool := match hasS L k with | some x => (x.d, true) | none => (0, false)
def ofS (L : List StD) (s : Int) : List StD := L.filter fun x => decide (x.key.slot = s)
def dropS (L : List StD) (s : Int) : List StD := L.filter fun x => decide (x.key.slot ≠ s)

/-! what stands where -/
structure StoT (size : Nat) (ts : TS) (fr : List Int) (st : List StD) : Prop where
  ok : okP size fr
  stl : st.length = size
  tell : ∀ k n, ts.M k = some n ↔ ∃ p : Nat, n = p ∧ (p : Int) ∉ fr ∧ ∃ x, st[p]? = some x ∧ x.key = k
  cnt : ts.u + fr.length = size
/-- these states stand there -/
structure StoM (fr : List Int) (st L : List StD) : Prop where
  ris : SRis L
  mem : ∀ x, x ∈ L ↔ ∃ p : Nat, (p : Int) ∉ fr ∧ st[p]? = some x
def ChI (fr : List Int) (st : List StD) (ch : Int → List Int) : Prop := ∀ s, (ch s).Nodup ∧ ∀ n, n ∈ ch s ↔ ∃ p : Nat, n = p ∧ (p : Int) ∉ fr ∧ ∃ x, st[p]? = some x ∧ x.key.slot = s
theorem StoT.inj {size : Nat} {ts : TS} {fr : List Int} {st : List StD} (T : StoT size ts fr st) {p q : Nat} {x y : StD} (hp : (p : Int) ∉ fr) (hq : (q : Int) ∉ fr) (hx : st[p]? = some x) (hy : st[q]? = some y) (e : x.key = y.key) : p = q := by
  have h1 := (T.tell x.key p).2 ⟨p, rfl, hp, x, hx, rfl⟩
  have h2 := (T.tell x.key q).2 ⟨q, rfl, hq, y, hy, e.symm⟩
  rw [h1] at h2
  have := Option.some.inj h2
  omega
/-- the places that are used -/
def usedP (size : Nat) (fr : List Int) : List Nat := (List.range size).filter fun p : Nat => decide ((p : Int) ∉ fr)
theorem usedP_len {size : Nat} {fr : List Int} (h : okP size fr) : (usedP size fr).length + fr.length = size := by
  have h1 : fr.Perm (((List.range size).filter fun p : Nat => decide ((p : Int) ∈ fr)).map fun p : Nat => (p : Int)) := by
    refine (List.perm_ext_iff_of_nodup h.2.2.2 ?_).2 fun n => ?_
    · rw [List.nodup_iff_pairwise_ne, List.pairwise_map]
      have hnd : ((List.range size).filter fun p : Nat => decide ((p : Int) ∈ fr)).Nodup := (List.nodup_range).filter _
      rw [List.nodup_iff_pairwise_ne] at hnd
      exact hnd.imp fun {a b} h e => h (by omega)
    · simp only [List.mem_map, List.mem_filter, List.mem_range, decide_eq_true_eq]
      constructor
      · intro hn
        have := h.2.2.1 n hn
        exact ⟨n.toNat, ⟨by omega, by rwa [show ((n.toNat : Nat) : Int) = n by omega]⟩, by omega⟩
      · rintro ⟨p, ⟨_, hp⟩, rfl⟩; exact hp
  have h2 := h1.length_eq
  rw [List.length_map] at h2
  have h3 : ∀ (l : List Nat), (l.filter fun p : Nat => decide ((p : Int) ∉ fr)).length + (l.filter fun p : Nat => decide ((p : Int) ∈ fr)).length = l.length := by
    intro l
    induction l with
    | nil => rfl
    | cons a r ih =>
      by_cases ha : (a : Int) ∈ fr
      · simp [ha] at ih ⊢; omega
      · simp [ha] at ih ⊢; omega
  have := h3 (List.range size)
  unfold usedP
  rw [List.length_range] at this
  omega
theorem StoT.len {size : Nat} {ts : TS} {fr : List Int} {st L : List StD} (T : StoT size ts fr st) (M : StoM fr st L) : L.length = ts.u := by
  have hl := usedP_len T.ok
  have hc := T.cnt
  have hp : L.Perm ((usedP size fr).map fun p => st.getD p zSt) := by
    refine (List.perm_ext_iff_of_nodup M.ris.nodup ?_).2 fun x => ?_
    · rw [List.nodup_iff_pairwise_ne, List.pairwise_map]
      have hnd : (usedP size fr).Nodup := (List.nodup_range).filter _
      rw [List.nodup_iff_pairwise_ne] at hnd
      refine List.Pairwise.imp_of_mem (fun {a b} ha hb hne e => hne ?_) hnd
      simp only [usedP, List.mem_filter, List.mem_range, decide_eq_true_eq] at ha hb
      have h1 : a < st.length := by rw [T.stl]; exact ha.1
      have h2 : b < st.length := by rw [T.stl]; exact hb.1
      have e1 : st[a]? = some (st.getD a zSt) := by simp [h1]
      have e2 : st[b]? = some (st.getD b zSt) := by simp [h2]
      exact T.inj ha.2 hb.2 e1 e2 (by rw [e])
    · rw [M.mem x]
      simp only [List.mem_map, usedP, List.mem_filter, List.mem_range, decide_eq_true_eq]
      constructor
      · rintro ⟨p, hp, hx⟩
        have := (List.getElem?_eq_some_iff.1 hx).1
        exact ⟨p, ⟨by rw [← T.stl]; exact this, hp⟩, by rw [List.getD_eq_getElem?_getD, hx]; rfl⟩
      · rintro ⟨p, ⟨h1, hp⟩, rfl⟩
        have h1 : p < st.length := by rw [T.stl]; exact h1
        exact ⟨p, hp, by simp [h1]⟩
  have := hp.length_eq
  rw [List.length_map] at this
  omega
/-- of a key: what stands there -/
theorem StoT.get {size : Nat} {ts : TS} {fr : List Int} {st L : List StD} (T : StoT size ts fr st) (M : StoM fr st L) (k : KeyD) :
    (∃ (p : Nat) (x : StD), ts.M k = some (p : Int) ∧ (p : Int) ∉ fr ∧ st[p]? = some x ∧ x.key = k ∧ hasS L k = some x) ∨ (ts.M k = none ∧ hasS L k = none) := by
  cases hm : ts.M k with
  | some n =>
    have q_ := (T.tell k n).1 hm
    obtain ⟨p, rfl, hp, x, hx, hk⟩ := q_
    exact .inl ⟨p, x, rfl, hp, hx, hk, (hasS_some M.ris).2 ⟨(M.mem x).2 ⟨p, hp, hx⟩, hk⟩⟩
  | none =>
    refine .inr ⟨rfl, hasS_none.2 fun x hx e => ?_⟩
    have q_ := (M.mem x).1 hx
    obtain ⟨p, hp, hpx⟩ := q_
    have := (T.tell k p).2 ⟨p, rfl, hp, x, hpx, e⟩
    rw [hm] at this; cases this

/-- one is put in -/
theorem StoT.put {size : Nat} {ts : TS} {fr : List Int} {p : Nat} {st L : List StD} {ch : Int → List Int} {x : StD} (T : StoT size ts (fr ++ [(p : Int)]) st) (M : StoM (fr ++ [(p : Int)]) st L) (C : ChI (fr ++ [(p : Int)]) st ch) (hk : mayK x.key) (hn : ts.M x.key = none) :
    (putTS size ts x.key p).2 = 0 ∧ StoT size (putTS size ts x.key p).1 fr (st.set p x) ∧ StoM fr (st.set p x) (insS x L) ∧ ChI fr (st.set p x) (fun s => if s = x.key.slot then ch s ++ [(p : Int)] else ch s) := by
  have q_ := T.ok
  obtain ⟨k1, k2, k3, k4⟩ := q_
  have hcnt := T.cnt
  rw [List.length_append, List.length_singleton] at hcnt
  have hps : p < size := by have := k3 p (by simp); omega
  have hpl : p < st.length := by rw [T.stl]; exact hps
  rw [List.nodup_append] at k4
  have hpf : (p : Int) ∉ fr := fun h => k4.2.2 _ h _ (List.mem_singleton.2 rfl) rfl
  have hput : putTS size ts x.key p = (⟨fun k' => if k' = x.key then some (p : Int) else ts.M k', ts.u + 1⟩, 0) := by
    unfold putTS; rw [if_pos hk, hn]; simp only; rw [if_neg (by omega)]
  rw [hput]
  -- who is used behind it
  have use : ∀ (q : Nat) (y : StD), ((q : Int) ∉ fr ∧ (st.set p x)[q]? = some y) ↔ (q = p ∧ y = x) ∨ ((q : Int) ∉ fr ++ [(p : Int)] ∧ st[q]? = some y) := by
    intro q y
    rw [List.getElem?_set]
    by_cases e : p = q
    · subst e
      rw [if_pos rfl, if_pos hpl]
      constructor
      · rintro ⟨_, h⟩; exact .inl ⟨rfl, (Option.some.inj h).symm⟩
      · rintro (⟨_, rfl⟩ | ⟨h, _⟩)
        · exact ⟨hpf, rfl⟩
        · exact absurd (by simp) h
    · rw [if_neg e]
      simp only [List.mem_append, List.mem_singleton, not_or]
      constructor
      · rintro ⟨h1, h2⟩; exact .inr ⟨⟨h1, by omega⟩, h2⟩
      · rintro (⟨h, _⟩ | ⟨h1, h2⟩)
        · exact absurd h.symm e
        · exact ⟨h1.1, h2⟩
  have hnk : ∀ y ∈ L, y.key ≠ x.key := fun y hy e => by
    have q_ := (M.mem y).1 hy
    obtain ⟨q, hq, hqy⟩ := q_
    have := (T.tell x.key q).2 ⟨q, rfl, hq, y, hqy, e⟩
    rw [hn] at this; cases this
  refine ⟨rfl, ⟨⟨k1, k2, fun n hn' => k3 n (List.mem_append_left _ hn'), k4.1⟩, by rw [List.length_set]; exact T.stl, fun k n => ?_, by show ts.u + 1 + fr.length = size; omega⟩, ⟨insS_ris x M.ris hnk, fun y => ?_⟩, fun s => ?_⟩
  · show (if k = x.key then some (p : Int) else ts.M k) = some n ↔ _
    have : (∃ q : Nat, n = q ∧ (q : Int) ∉ fr ∧ ∃ y, (st.set p x)[q]? = some y ∧ y.key = k) ↔ (n = p ∧ x.key = k) ∨ ∃ q : Nat, n = q ∧ (q : Int) ∉ fr ++ [(p : Int)] ∧ ∃ y, st[q]? = some y ∧ y.key = k := by
      constructor
      · rintro ⟨q, rfl, h1, y, h2, h3⟩
        have q_ := (use q y).1 ⟨h1, h2⟩
        rcases q_ with ⟨rfl, rfl⟩ | ⟨h4, h5⟩
        · exact .inl ⟨rfl, h3⟩
        · exact .inr ⟨q, rfl, h4, y, h5, h3⟩
      · rintro (⟨rfl, h⟩ | ⟨q, rfl, h1, y, h2, h3⟩)
        · have := (use p x).2 (.inl ⟨rfl, rfl⟩); exact ⟨p, rfl, this.1, x, this.2, h⟩
        · have := (use q y).2 (.inr ⟨h1, h2⟩); exact ⟨q, rfl, this.1, y, this.2, h3⟩
    rw [this, ← T.tell]
    split
    · rename_i e; subst e
      rw [hn]; simp; exact eq_comm
    · rename_i e
      constructor
      · exact .inr
      · rintro (⟨_, h⟩ | h)
        · exact absurd h.symm e
        · exact h
  · rw [(insS_perm x L).mem_iff, List.mem_cons, M.mem]
    constructor
    · rintro (rfl | ⟨q, h1, h2⟩)
      · exact ⟨p, (use p y).2 (.inl ⟨rfl, rfl⟩)⟩
      · exact ⟨q, (use q y).2 (.inr ⟨h1, h2⟩)⟩
    · rintro ⟨q, h⟩
      have q_ := (use q y).1 h
      rcases q_ with ⟨_, rfl⟩ | h
      · exact .inl rfl
      · exact .inr ⟨q, h⟩
  · have hc := C s
    have : ∀ n : Int, (∃ q : Nat, n = q ∧ (q : Int) ∉ fr ∧ ∃ y, (st.set p x)[q]? = some y ∧ y.key.slot = s) ↔ (n = p ∧ x.key.slot = s) ∨ n ∈ ch s := by
      intro n
      rw [hc.2 n]
      constructor
      · rintro ⟨q, rfl, h1, y, h2, h3⟩
        have q_ := (use q y).1 ⟨h1, h2⟩
        rcases q_ with ⟨rfl, rfl⟩ | ⟨h4, h5⟩
        · exact .inl ⟨rfl, h3⟩
        · exact .inr ⟨q, rfl, h4, y, h5, h3⟩
      · rintro (⟨rfl, h⟩ | ⟨q, rfl, h1, y, h2, h3⟩)
        · have := (use p x).2 (.inl ⟨rfl, rfl⟩); exact ⟨p, rfl, this.1, x, this.2, h⟩
        · have := (use q y).2 (.inr ⟨h1, h2⟩); exact ⟨q, rfl, this.1, y, this.2, h3⟩
    have hpc : (p : Int) ∉ ch s := fun h => by obtain ⟨q, hq, h1, _⟩ := (hc.2 _).1 h; rw [← hq] at h1; exact h1 (by simp)
    dsimp only
    split
    · rename_i e
      refine ⟨?_, fun n => ?_⟩
      · rw [List.nodup_append]
        refine ⟨hc.1, by simp, fun a ha b hb => ?_⟩
        rw [List.mem_singleton] at hb; subst hb
        rintro rfl; exact hpc ha
      · rw [this, List.mem_append, List.mem_singleton]
        constructor
        · rintro (h | h)
          · exact .inr h
          · exact .inl ⟨h, e.symm⟩
        · rintro (⟨h, _⟩ | h)
          · exact .inr h
          · exact .inl h
    · rename_i e
      refine ⟨hc.1, fun n => ?_⟩
      rw [this]
      exact ⟨.inr, fun h => h.elim (fun h => absurd h.2.symm e) id⟩

/-- one of a slot's is dropped -/
theorem StoT.drop {size : Nat} {ts : TS} {fr : List Int} {st : List StD} (T : StoT size ts fr st) {p : Nat} {x : StD} (hp : (p : Int) ∉ fr) (hx : st[p]? = some x) :
    StoT size (dropTS ts x.key).1 (fr ++ [(p : Int)]) st := by
  have q_ := T.ok
  obtain ⟨k1, k2, k3, k4⟩ := q_
  have hcnt := T.cnt
  have hps : p < size := by rw [← T.stl]; exact (List.getElem?_eq_some_iff.1 hx).1
  have hm := (T.tell x.key p).2 ⟨p, rfl, hp, x, hx, rfl⟩
  have hd : dropTS ts x.key = (⟨fun k' => if k' = x.key then none else ts.M k', ts.u - 1⟩, true) := by unfold dropTS; rw [hm]
  rw [hd]
  have hok : okP size (fr ++ [(p : Int)]) := by
    refine ⟨k1, k2, fun n hn => ?_, ?_⟩
    · have q_ := List.mem_append.1 hn
      rcases q_ with hn | hn
      · exact k3 n hn
      · rw [List.mem_singleton] at hn; omega
    · rw [List.nodup_append]
      refine ⟨k4, by simp, fun a ha b hb => ?_⟩
      rw [List.mem_singleton] at hb; subst hb
      rintro rfl; exact hp ha
  have hlen := usedP_len hok
  rw [List.length_append, List.length_singleton] at hlen
  refine ⟨hok, T.stl, fun k n => ?_, by show ts.u - 1 + (fr ++ [(p : Int)]).length = size; rw [List.length_append, List.length_singleton]; omega⟩
  show (if k = x.key then none else ts.M k) = some n ↔ _
  split
  · rename_i e; subst e
    constructor
    · intro h; cases h
    · rintro ⟨q, rfl, h1, y, h2, h3⟩
      rw [List.mem_append, List.mem_singleton, not_or] at h1
      have := T.inj h1.1 hp h2 hx h3
      exact absurd (by rw [this]) h1.2
  · rename_i e
    rw [T.tell]
    constructor
    · rintro ⟨q, rfl, h1, y, h2, h3⟩
      refine ⟨q, rfl, fun h => ?_, y, h2, h3⟩
      have q_ := List.mem_append.1 h
      rcases q_ with h | h
      · exact h1 h
      · rw [List.mem_singleton] at h
        have : q = p := by omega
        subst this; rw [hx] at h2; cases h2; exact e h3.symm
    · rintro ⟨q, rfl, h1, y, h2, h3⟩
      exact ⟨q, rfl, fun h => h1 (List.mem_append_left _ h), y, h2, h3⟩
/-- all of a slot are dropped -/
theorem StoM.drop {fr : List Int} {st L : List StD} {ch : Int → List Int} (M : StoM fr st L) (C : ChI fr st ch) (s : Int) :
    StoM (fr ++ ch s) st (dropS L s) ∧ ChI (fr ++ ch s) st (fun s' => if s' = s then [] else ch s') := by
  have key : ∀ (q : Nat) (y : StD), st[q]? = some y → ((q : Int) ∉ fr ++ ch s ↔ (q : Int) ∉ fr ∧ y.key.slot ≠ s) := by
    intro q y hy
    rw [List.mem_append, not_or, (C s).2]
    constructor
    · rintro ⟨h1, h2⟩; exact ⟨h1, fun e => h2 ⟨q, rfl, h1, y, hy, e⟩⟩
    · rintro ⟨h1, h2⟩
      refine ⟨h1, fun ⟨q', hq, _, y', hy', e⟩ => h2 ?_⟩
      have : q = q' := by omega
      subst this; rw [hy] at hy'; cases hy'; exact e
  refine ⟨⟨M.ris.sublist (List.filter_sublist ..), fun x => ?_⟩, fun s' => ?_⟩
  · unfold dropS
    rw [List.mem_filter, M.mem, decide_eq_true_eq]
    constructor
    · rintro ⟨⟨q, h1, h2⟩, h3⟩; exact ⟨q, (key q x h2).2 ⟨h1, h3⟩, h2⟩
    · rintro ⟨q, h1, h2⟩; have := (key q x h2).1 h1; exact ⟨⟨q, this.1, h2⟩, this.2⟩
  · dsimp only
    split
    · rename_i e; subst e
      refine ⟨by simp, fun n => ⟨fun h => by simp at h, ?_⟩⟩
      rintro ⟨q, rfl, h1, y, h2, h3⟩
      exact absurd h3 ((key q y h2).1 h1).2
    · rename_i e
      refine ⟨(C s').1, fun n => ?_⟩
      rw [(C s').2]
      constructor
      · rintro ⟨q, rfl, h1, y, h2, h3⟩; exact ⟨q, rfl, (key q y h2).2 ⟨h1, fun h => e (h3.symm.trans h)⟩, y, h2, h3⟩
      · rintro ⟨q, rfl, h1, y, h2, h3⟩; exact ⟨q, rfl, ((key q y h2).1 h1).1, y, h2, h3⟩
theorem drop_count (L : List StD) (s : Int) : (dropS L s).length + (ofS L s).length = L.length := by
  unfold dropS ofS
  induction L with
  | nil => rfl
  | cons a r ih => by_cases h : a.key.slot = s <;> simp [h] at ih ⊢ <;> omega
/-- of a slot: the states that its places have -/
theorem StoT.of {size : Nat} {ts : TS} {fr : List Int} {st L : List StD} {ch : Int → List Int} (T : StoT size ts fr st) (M : StoM fr st L) (C : ChI fr st ch) (s : Int) :
    ((ch s).map fun n => st.getD n.toNat zSt).Perm (ofS L s) := by
  have hc := C s
  refine (List.perm_ext_iff_of_nodup ?_ (M.ris.nodup.filter _)).2 fun x => ?_
  · rw [List.nodup_iff_pairwise_ne, List.pairwise_map]
    have hnd := hc.1
    rw [List.nodup_iff_pairwise_ne] at hnd
    refine List.Pairwise.imp_of_mem (fun {a b} ha hb hne e => hne ?_) hnd
    have q_ := (hc.2 a).1 ha
    obtain ⟨p, rfl, h1, y, h2, _⟩ := q_
    have q_ := (hc.2 b).1 hb
    obtain ⟨q, rfl, h3, z, h4, _⟩ := q_
    simp only [Int.toNat_natCast, List.getD_eq_getElem?_getD, h2, h4, Option.getD_some] at e
    subst e
    rw [T.inj h1 h3 h2 h4 rfl]
  · rw [List.mem_filter, M.mem, decide_eq_true_eq, List.mem_map]
    constructor
    · rintro ⟨n, hn, rfl⟩
      have q_ := (hc.2 n).1 hn
      obtain ⟨p, rfl, h1, y, h2, h3⟩ := q_
      simp only [Int.toNat_natCast, List.getD_eq_getElem?_getD, h2, Option.getD_some]
      exact ⟨⟨p, h1, h2⟩, h3⟩
    · rintro ⟨⟨p, h1, h2⟩, h3⟩
      refine ⟨p, (hc.2 _).2 ⟨p, rfl, h1, x, h2, h3⟩, ?_⟩
      simp only [Int.toNat_natCast, List.getD_eq_getElem?_getD, h2, Option.getD_some]
end Go.W
