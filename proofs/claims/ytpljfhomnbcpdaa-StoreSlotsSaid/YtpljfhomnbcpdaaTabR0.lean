/-
  Proved here: rows of keys that rise, with numbers, tell what a table tells (plain facts).
  Conditions: none.
-/
import Derived.Test.YtpljfhomnbcpdaaTabP4
namespace Go.W
open Go

def lessK (a b : KeyD) : Prop := a.slot < b.slot ∨ a.slot = b.slot ∧ (a.dir < b.dir ∨ a.dir = b.dir ∧ a.v < b.v)
instance (a b : KeyD) : Decidable (lessK a b) := by unfold lessK; exact inferInstance
abbrev RisK (l : List KeyD) : Prop := l.Pairwise lessK
theorem key_ext {a b : KeyD} (h1 : a.slot = b.slot) (h2 : a.dir = b.dir) (h3 : a.v = b.v) : a = b := by cases a; cases b; simp_all
theorem lessK_ne {a b : KeyD} (h : lessK a b) : a ≠ b := by rintro rfl; unfold lessK at h; omega
theorem lessK_asym {a b : KeyD} (h : lessK a b) : ¬ lessK b a := by unfold lessK at *; omega
theorem lessK_trans {a b c : KeyD} (h : lessK a b) (k : lessK b c) : lessK a c := by unfold lessK at *; omega
theorem lessK_tri {a b : KeyD} (h : ¬ lessK a b) (h' : a ≠ b) : lessK b a := by
  have q_ := Classical.em (lessK b a)
  rcases q_ with k | k
  · exact k
  · exfalso; apply h'
    unfold lessK at h k
    exact key_ext (by omega) (by omega) (by omega)
theorem RisK.nodup {l : List KeyD} (h : RisK l) : l.Nodup := h.imp lessK_ne
theorem RisK.uniq : ∀ {l m : List KeyD}, RisK l → RisK m → (∀ k, k ∈ l ↔ k ∈ m) → l = m
  | [], [], _, _, _ => rfl
  | [], b :: m, _, _, h => by have := (h b).2 (List.mem_cons_self ..); cases this
  | a :: l, [], _, _, h => by have := (h a).1 (List.mem_cons_self ..); cases this
  | a :: l, b :: m, hl, hm, h => by
    rw [RisK, List.pairwise_cons] at hl hm
    have hab : a = b := by
      have q_ := List.mem_cons.1 ((h a).1 (List.mem_cons_self ..))
      rcases q_ with h1 | h1
      · exact h1
      · have q_ := List.mem_cons.1 ((h b).2 (List.mem_cons_self ..))
        rcases q_ with h2 | h2
        · exact h2.symm
        · exact absurd (hm.1 a h1) (lessK_asym (hl.1 b h2))
    subst hab
    congr 1
    refine RisK.uniq hl.2 hm.2 fun k => ⟨fun hk => ?_, fun hk => ?_⟩
    · have q_ := List.mem_cons.1 ((h k).1 (List.mem_cons_of_mem _ hk))
      rcases q_ with rfl | h1
      · exact absurd rfl (lessK_ne (hl.1 k hk))
      · exact h1
    · have q_ := List.mem_cons.1 ((h k).2 (List.mem_cons_of_mem _ hk))
      rcases q_ with rfl | h1
      · exact absurd rfl (lessK_ne (hm.1 k hk))
      · exact h1

/-! the keys of a table -/
structure KeysOf (s : TS) (l : List KeyD) : Prop where
  ris : RisK l
  mem : ∀ k, k ∈ l ↔ (s.M k).isSome = true
  len : l.length = s.u
theorem KeysOf.uniq {s : TS} {l m : List KeyD} (h : KeysOf s l) (k : KeysOf s m) : l = m := h.ris.uniq k.ris fun x => (h.mem x).trans (k.mem x).symm

/-! the reference's table: keys that rise, and their numbers, place by place -/
def pairK (ks : List KeyD) (ns : List Int) (k : KeyD) (n : Int) : Prop := ∃ i : Nat, ks[i]? = some k ∧ ns[i]? = some n
structure RefOf (s : TS) (ks : List KeyD) (ns : List Int) : Prop where
  ris : RisK ks
  len : ns.length = ks.length
  tell : ∀ k n, s.M k = some n ↔ pairK ks ns k n
  u : s.u = ks.length
theorem RefOf.keys {s : TS} {ks : List KeyD} {ns : List Int} (h : RefOf s ks ns) : KeysOf s ks := by
  refine ⟨h.ris, fun k => ?_, h.u.symm⟩
  rw [Option.isSome_iff_exists]
  constructor
  · intro hk
    have q_ := List.mem_iff_getElem.1 hk
    obtain ⟨i, hi, rfl⟩ := q_
    have hi' : i < ns.length := by rw [h.len]; exact hi
    exact ⟨ns[i], (h.tell _ _).2 ⟨i, by simp [hi], by simp [hi']⟩⟩
  · rintro ⟨n, hn⟩
    have q_ := (h.tell _ _).1 hn
    obtain ⟨i, hi, _⟩ := q_
    exact List.mem_of_getElem? hi
theorem RefOf.zero : RefOf zTS [] [] := ⟨.nil, rfl, fun k n => Iff.intro (fun h => (by cases h)) (fun ⟨i, h, _⟩ => by simp at h), rfl⟩

/-- where a key stands, or would stand -/
structure AtK (ks : List KeyD) (k : KeyD) (i : Nat) : Prop where
  le : i ≤ ks.length
  lo : ∀ j, j < i → (hj : j < ks.length) → lessK ks[j] k
  hi : (h : i < ks.length) → ¬ lessK ks[i] k
theorem AtK.there {ks : List KeyD} {k : KeyD} {i : Nat} (h : AtK ks k i) (r : RisK ks) : k ∈ ks ↔ ∃ h : i < ks.length, ks[i] = k := by
  constructor
  · intro hk
    have q_ := List.mem_iff_getElem.1 hk
    obtain ⟨j, hj, rfl⟩ := q_
    have q_ := Nat.lt_trichotomy j i
    rcases q_ with h1 | rfl | h1
    · exact absurd rfl (lessK_ne (h.lo j h1 hj))
    · exact ⟨hj, rfl⟩
    · exact absurd (List.pairwise_iff_getElem.1 r i j (by omega) hj h1) (h.hi (by omega))
  · rintro ⟨h1, rfl⟩; exact List.getElem_mem h1
theorem RefOf.get {s : TS} {ks : List KeyD} {ns : List Int} (R : RefOf s ks ns) {k : KeyD} {i : Nat} (h : AtK ks k i) :
    (∃ hi : i < ks.length, ks[i] = k ∧ ∃ n, ns[i]? = some n ∧ s.M k = some n) ∨ ((∀ hi : i < ks.length, ks[i] ≠ k) ∧ s.M k = none) := by
  by_cases hk : ∃ h : i < ks.length, ks[i] = k
  · obtain ⟨hi, hk⟩ := hk
    have hi' : i < ns.length := by rw [R.len]; exact hi
    exact .inl ⟨hi, hk, ns[i], by simp [hi'], (R.tell _ _).2 ⟨i, by simp [hi, hk], by simp [hi']⟩⟩
  · refine .inr ⟨fun hi e => hk ⟨hi, e⟩, ?_⟩
    cases hm : s.M k with
    | none => rfl
    | some n =>
      have q_ := (R.tell _ _).1 hm
      obtain ⟨j, hj, _⟩ := q_
      exact absurd ((h.there R.ris).1 (List.mem_of_getElem? hj)) hk

theorem ins_get {α : Type} (l : List α) (x : α) (i : Nat) (hi : i ≤ l.length) (j : Nat) : (l.take i ++ x :: l.drop i)[j]? = if j < i then l[j]? else if j = i then some x else l[j - 1]? := by
  rw [List.getElem?_append, List.length_take, Nat.min_eq_left hi]
  split
  · rw [List.getElem?_take, if_pos ‹_›]
  · split
    · rename_i h; subst h; simp
    · have q_ : ∃ d, j = i + 1 + d := ⟨j - (i + 1), by omega⟩
      obtain ⟨d, rfl⟩ := q_
      rw [show i + 1 + d - i = d + 1 by omega, List.getElem?_cons_succ, List.getElem?_drop]
      congr 1; omega
theorem del_get {α : Type} (l : List α) (i : Nat) (hi : i ≤ l.length) (j : Nat) : (l.take i ++ l.drop (i + 1))[j]? = if j < i then l[j]? else l[j + 1]? := by
  rw [List.getElem?_append, List.length_take, Nat.min_eq_left hi]
  split
  · rw [List.getElem?_take, if_pos ‹_›]
  · rw [List.getElem?_drop]; congr 1; omega
theorem ins_ris {ks : List KeyD} {k : KeyD} {i : Nat} (r : RisK ks) (h : AtK ks k i) (hn : ∀ hi : i < ks.length, ks[i] ≠ k) : RisK (ks.take i ++ k :: ks.drop i) := by
  rw [RisK, List.pairwise_append]
  have hd : ∀ y ∈ ks.drop i, lessK k y := by
    intro y hy
    have q_ := List.mem_iff_getElem.1 hy
    obtain ⟨j, hj, rfl⟩ := q_
    rw [List.length_drop] at hj
    rw [List.getElem_drop]
    have h0 : i < ks.length := by omega
    have hk := lessK_tri (h.hi h0) (hn h0)
    have q_ := Nat.eq_zero_or_pos j
    rcases q_ with rfl | hp
    · exact hk
    · exact lessK_trans hk (List.pairwise_iff_getElem.1 r i (i + j) h0 (by omega) (by omega))
  have ht : ∀ y ∈ ks.take i, lessK y k := by
    intro y hy
    have q_ := List.mem_iff_getElem.1 hy
    obtain ⟨j, hj, rfl⟩ := q_
    rw [List.length_take] at hj
    rw [List.getElem_take]
    exact h.lo j (by omega) (by omega)
  refine ⟨r.sublist (List.take_sublist _ _), List.pairwise_cons.2 ⟨hd, r.sublist (List.drop_sublist _ _)⟩, fun a ha b hb => ?_⟩
  have q_ := List.mem_cons.1 hb
  rcases q_ with rfl | hb
  · exact ht a ha
  · exact lessK_trans (ht a ha) (hd b hb)

theorem RefOf.set {s : TS} {ks : List KeyD} {ns : List Int} (R : RefOf s ks ns) {k : KeyD} {i : Nat} (hi : i < ks.length) (hk : ks[i] = k) (n : Int) (u : Nat) (hu : u = s.u) :
    RefOf ⟨fun k' => if k' = k then some n else s.M k', u⟩ ks (ns.set i n) := by
  subst hu
  have hi' : i < ns.length := by rw [R.len]; exact hi
  refine ⟨R.ris, by simp [R.len], fun k' m => ?_, R.u⟩
  have hnd := R.ris.nodup
  show (if k' = k then some n else s.M k') = some m ↔ _
  split
  · rename_i he; subst he
    constructor
    · intro h; cases h
      exact ⟨i, by simp [hi, hk], by simp [hi']⟩
    · rintro ⟨j, hj, hm⟩
      have hji : j = i := by
        have q_ := List.getElem?_eq_some_iff.1 hj
        obtain ⟨h1, h2⟩ := q_
        exact (List.getElem?_inj h1 hnd).1 (by rw [hj, ← hk]; simp [hi])
      subst hji
      simp [hi'] at hm; rw [hm]
  · rename_i he
    rw [R.tell]
    constructor
    · rintro ⟨j, hj, hm⟩
      have hji : i ≠ j := by
        rintro rfl
        rw [List.getElem?_eq_getElem hi] at hj
        cases hj; exact he hk
      exact ⟨j, hj, by rw [List.getElem?_set_ne hji]; exact hm⟩
    · rintro ⟨j, hj, hm⟩
      have hji : i ≠ j := by
        rintro rfl
        rw [List.getElem?_eq_getElem hi] at hj
        cases hj; exact he hk
      exact ⟨j, hj, by rw [List.getElem?_set_ne hji] at hm; exact hm⟩
theorem RefOf.ins {s : TS} {ks : List KeyD} {ns : List Int} (R : RefOf s ks ns) {k : KeyD} {i : Nat} (h : AtK ks k i) (hn : ∀ hi : i < ks.length, ks[i] ≠ k) (n : Int) (u : Nat) (hu : u = s.u + 1) :
    RefOf ⟨fun k' => if k' = k then some n else s.M k', u⟩ (ks.take i ++ k :: ks.drop i) (ns.take i ++ n :: ns.drop i) := by
  subst hu
  have hi := h.le
  have hi' : i ≤ ns.length := by rw [R.len]; exact hi
  have hl := R.len
  refine ⟨ins_ris R.ris h hn, by simp; omega, fun k' m => ?_, by simp [R.u]; omega⟩
  have hkn : k ∉ ks := fun hk => by obtain ⟨h1, h2⟩ := (h.there R.ris).1 hk; exact hn h1 h2
  unfold pairK
  simp only [ins_get _ _ _ hi, ins_get _ _ _ hi']
  show (if k' = k then some n else s.M k') = some m ↔ _
  split
  · rename_i he; subst he
    constructor
    · intro h; cases h
      exact ⟨i, by simp, by simp⟩
    · rintro ⟨j, hj, hm⟩
      split at hj
      · exact absurd (List.mem_of_getElem? hj) hkn
      · split at hj
        · rename_i h1 h2; rw [if_neg h1, if_pos h2] at hm; exact hm
        · exact absurd (List.mem_of_getElem? hj) hkn
  · rename_i he
    rw [R.tell]
    constructor
    · rintro ⟨j, hj, hm⟩
      have q_ := Nat.lt_or_ge j i
      rcases q_ with h1 | h1
      · exact ⟨j, by rw [if_pos h1]; exact hj, by rw [if_pos h1]; exact hm⟩
      · exact ⟨j + 1, by rw [if_neg (by omega), if_neg (by omega)]; exact hj, by rw [if_neg (by omega), if_neg (by omega)]; exact hm⟩
    · rintro ⟨j, hj, hm⟩
      split at hj
      · rename_i h1; rw [if_pos h1] at hm; exact ⟨j, hj, hm⟩
      · rename_i h1
        rw [if_neg h1] at hm
        split at hj
        · cases hj; exact absurd rfl he
        · rename_i h2; rw [if_neg h2] at hm; exact ⟨_, hj, hm⟩
theorem RefOf.del {s : TS} {ks : List KeyD} {ns : List Int} (R : RefOf s ks ns) {k : KeyD} {i : Nat} (hi : i < ks.length) (hk : ks[i] = k) (u : Nat) (hu : u = s.u - 1) :
    RefOf ⟨fun k' => if k' = k then none else s.M k', u⟩ (ks.take i ++ ks.drop (i + 1)) (ns.take i ++ ns.drop (i + 1)) := by
  subst hu
  have hi' : i < ns.length := by rw [R.len]; exact hi
  have hl := R.len
  have hnd := R.ris.nodup
  have hsub : (ks.take i ++ ks.drop (i + 1)).Sublist ks := by
    conv => rhs; rw [← List.take_append_drop i ks]
    exact List.Sublist.append (List.Sublist.refl _) (by rw [List.drop_eq_getElem_cons hi]; exact List.sublist_cons_self ..)
  refine ⟨R.ris.sublist hsub, by simp; omega, fun k' m => ?_, by simp [R.u]; omega⟩
  unfold pairK
  simp only [del_get _ _ (Nat.le_of_lt hi), del_get _ _ (Nat.le_of_lt hi')]
  have hne : ∀ j, ks[j]? = some k → j = i := fun j hj => by
    have q_ := List.getElem?_eq_some_iff.1 hj
    obtain ⟨h1, h2⟩ := q_
    exact (List.getElem?_inj h1 hnd).1 (by rw [hj, ← hk]; simp [hi])
  show (if k' = k then none else s.M k') = some m ↔ _
  split
  · rename_i he; subst he
    constructor
    · intro h; cases h
    · rintro ⟨j, hj, hm⟩
      split at hj
      · have := hne _ hj; omega
      · have := hne _ hj; omega
  · rename_i he
    rw [R.tell]
    constructor
    · rintro ⟨j, hj, hm⟩
      have q_ := Nat.lt_trichotomy j i
      rcases q_ with h1 | rfl | h1
      · exact ⟨j, by rw [if_pos h1]; exact hj, by rw [if_pos h1]; exact hm⟩
      · rw [List.getElem?_eq_getElem hi] at hj; cases hj; exact absurd hk he
      · have q_ : ∃ d, j = d + 1 := ⟨j - 1, by omega⟩
        obtain ⟨d, rfl⟩ := q_
        exact ⟨d, by rw [if_neg (by omega)]; exact hj, by rw [if_neg (by omega)]; exact hm⟩
    · rintro ⟨j, hj, hm⟩
      split at hj
      · rename_i h1; rw [if_pos h1] at hm; exact ⟨j, hj, hm⟩
      · rename_i h1; rw [if_neg h1] at hm; exact ⟨_, hj, hm⟩
end Go.W
