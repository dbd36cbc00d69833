/-
  Proved here: loops over maps, as the walk meets them; small rules.
  Conditions: those that each fact names.
-/
import Derived.Test.YtgplodgpbhddbaaW32
namespace Go.W
open Go
open Enc (enc)
section
variable {P : Program} {kt : TypeId} {κ : Type} [DecidableEq κ] [M : MKey P kt κ] {k : Value → World → Prop} {pn : List PanicEntry → World → Prop} {w : World}
/-- an operation that the walk does not know by itself: it yields a value -/
theorem rnx {o : Oper} {F : Nat → Value} {s : Sem Value} (e : execOp (ev F) o = (do let v ← s; pure (Next.value v))) (h : SemV P s k pn w) : NextS P (execOp (ev F) o) k pn w := by
  rw [NextS_iff, e, run_v]
  rw [SemV_iff] at h
  cases hs : s.run P w with
  | ok v w' => rw [hs] at h; exact h
  | halt x w' => rw [hs] at h; cases x <;> exact h
theorem MapB.qt {B : Nat} {w w' : World} {b : Nat} {m : List (κ × Value)} (h : MapB P kt w b m) (q : Qt B w w') : MapB P kt w' b m := by
  obtain ⟨⟨es, c, h1, h2⟩, h3⟩ := h
  exact ⟨⟨es, c, q.block b _ h1 (.inr rfl), h2⟩, h3⟩
theorem ItB.qt {B : Nat} {w w' : World} {r b : Nat} {rest : List (κ × Value)} (h : ItB P kt w r b rest) (q : Qt B w w') : ItB P kt w' r b rest := by
  obtain ⟨Z, c, s, h1, h2, h3, h4⟩ := h
  exact ⟨Z, c, s, h1, q.block b _ h2 (.inr rfl), q.block r _ h3 (.inr rfl), h4⟩
theorem ItB.kp {X : Nat → Prop} {w w' : World} {r b : Nat} {rest : List (κ × Value)} (h : ItB P kt w r b rest) (q : Kp X w w') (hr : X r) (hb : X b) : ItB P kt w' r b rest := by
  obtain ⟨Z, c, s, h1, h2, h3, h4⟩ := h
  exact ⟨Z, c, s, h1, q.k b _ h2 rfl hb, q.k r _ h3 rfl hr, h4⟩
theorem MapB.lt {w : World} {b : Nat} {m : List (κ × Value)} (h : MapB P kt w b m) : b < w.heap.size := by
  obtain ⟨⟨es, c, h1, _⟩, _⟩ := h; exact blk_lt h1
theorem MapB.neBk {w : World} {b b' : Nat} {m : List (κ × Value)} {cs : List Value} {e : TypeId} (h : MapB P kt w b m) (k : Bk w b' cs e) : b' ≠ b := by
  rintro rfl
  obtain ⟨⟨es, c, h1, _⟩, _⟩ := h
  rw [k.h] at h1; cases h1
theorem MapB.notOwn {α : Type} [Enc α] {w : World} {b B B' : Nat} {e : TypeId} {v : Value} {l : List α} {m : List (κ × Value)} (h : MapB P kt w b m) (O : Own B e w v l) : ¬ ownD B' v b := by
  rintro ⟨h1, h2, h3⟩
  obtain ⟨⟨es, c, hh, _⟩, _⟩ := h
  rcases O with ⟨_, a, rfl⟩ | O
  · exact h3 a rfl
  · rcases O.2 with ⟨rfl, _⟩ | ⟨g, cap, cur, rfl, _, hg, _⟩
    · exact h3 none rfl
    · have : g = b := by simpa [Value.blk] using h2
      subst this
      rw [hg] at hh; cases hh
theorem Own.frI {α : Type} [Enc α] {B : Nat} {e : TypeId} {w w' : World} {v : Value} {l : List α} {b : Nat} {o : Obj} (h : Own B e w v l) (f : Fr (fun i => i = b) w w') (hb : w.heap[b]? = some o) (ho : ∀ c t z, o ≠ .cells c t z) : Own B e w' v l := by
  rcases h with ⟨h1, h2⟩ | h
  · exact .inl ⟨h1, h2⟩
  · rcases h.2 with ⟨rfl, h1⟩ | ⟨g, cap, cur, rfl, hg, hgg, rest⟩
    · exact .inr ⟨h.1, .inl ⟨rfl, h1⟩⟩
    · refine .inr ⟨h.1, .inr ⟨g, cap, cur, rfl, hg, ?_, rest⟩⟩
      rw [f.block g (blk_lt hgg) (by rintro rfl; rw [hgg] at hb; cases hb; exact ho _ _ _ rfl)]
      exact hgg
theorem ItB.obj {w : World} {r b : Nat} {rest : List (κ × Value)} (h : ItB P kt w r b rest) : ∃ o, w.heap[r]? = some o ∧ (∀ c t z, o ≠ .cells c t z) ∧ isRec o = false := by
  obtain ⟨Z, c, s, h1, h2, h3, h4⟩ := h
  exact ⟨_, h3, by simp, rfl⟩
theorem obj_notOwn {α : Type} [Enc α] {w : World} {b B B' : Nat} {e : TypeId} {v : Value} {l : List α} {o : Obj} (hb : w.heap[b]? = some o) (ho : ∀ c t z, o ≠ .cells c t z) (O : Own B e w v l) : ¬ ownD B' v b := by
  rintro ⟨h1, h2, h3⟩
  rcases O with ⟨_, a, rfl⟩ | O
  · exact h3 a rfl
  · rcases O.2 with ⟨rfl, _⟩ | ⟨g, cap, cur, rfl, _, hg, _⟩
    · exact h3 none rfl
    · have : g = b := by simpa [Value.blk] using h2
      subst this
      rw [hg] at hb; cases hb; exact ho _ _ _ rfl
theorem ItB.fro {α : Type} [Enc α] {w w' : World} {r b : Nat} {rest : List (κ × Value)} {B B' : Nat} {e : TypeId} {v : Value} {l : List α} (h : ItB P kt w r b rest) (O : Own B e w v l) (f : Fr (ownD B' v) w w') : ItB P kt w' r b rest := by
  have h' := h
  obtain ⟨Z, c, s, h1, h2, h3, h4⟩ := h'
  exact h.fr f (obj_notOwn h3 (by simp) O) (obj_notOwn h2 (by simp) O)
theorem setM_len {κ : Type} [DecidableEq κ] (x : κ) (v : Value) : ∀ (m : List (κ × Value)), (setM x v m).length ≤ m.length + 1
  | [] => by simp [setM]
  | (k1, v1) :: r => by
    unfold setM
    split
    · simp
    · have := setM_len x v r; simp; omega
/-- what a map of counts tells -/
def CntM (m : List (Int × Value)) (f : Int → Nat) : Prop := ∀ c, getM m c = if f c = 0 then none else some (.int .i64 ((f c : Nat) : Int))
theorem CntM.nil {f : Int → Nat} (h : ∀ c, f c = 0) : CntM [] f := fun c => by rw [getM_nil, if_pos (h c)]
theorem CntM.look {m : List (Int × Value)} {f : Int → Nat} (h : CntM m f) (c : Int) : (getM m c).getD (.int .i64 0) = .int .i64 ((f c : Nat) : Int) := by
  rw [h c]; split
  · rename_i e; rw [e]; rfl
  · rfl
theorem CntM.set {m : List (Int × Value)} {f f' : Int → Nat} (h : CntM m f) {x : Int} (hf : ∀ c, f' c = f c + if c = x then 1 else 0) : CntM (setM x (.int .i64 ((f' x : Nat) : Int)) m) f' := fun c => by
  rw [getM_set]
  by_cases hc : c = x
  · subst hc
    rw [if_pos rfl, if_neg (by rw [hf c, if_pos rfl]; omega)]
  · rw [if_neg hc, h c]
    have := hf c
    rw [if_neg hc, Nat.add_zero] at this
    rw [this]
theorem CntM.mem {m : List (Int × Value)} {f : Int → Nat} (h : CntM m f) (hn : (m.map (·.1)).Nodup) (c : Int) (v : Value) : (c, v) ∈ m ↔ f c ≠ 0 ∧ v = .int .i64 ((f c : Nat) : Int) := by
  constructor
  · intro hm
    have := getM_of_mem hn hm
    rw [h c] at this
    split at this
    · cases this
    · rename_i e; exact ⟨e, (Option.some.inj this).symm⟩
  · rintro ⟨h1, rfl⟩
    have := h c
    rw [if_neg h1] at this
    exact getM_mem this
end
theorem least_of {p : Nat → Prop} (h : ∃ n, p n) : ∃ n, p n ∧ ∀ m, p m → n ≤ m := by
  obtain ⟨n, hn⟩ := h
  induction n using Nat.strongRecOn with
  | ind n ih =>
    by_cases hm : ∃ m, m < n ∧ p m
    · obtain ⟨m, hlt, hp⟩ := hm; exact ih m hlt hp
    · exact ⟨n, hn, fun m hp => by
        rcases Nat.lt_or_ge m n with h | h
        · exact (hm ⟨m, h, hp⟩).elim
        · exact h⟩
open Classical in
/-- the least of these numbers -/
noncomputable def leastN (p : Nat → Prop) : Nat := if h : ∃ n, p n then (least_of h).choose else 0
theorem leastN_spec {p : Nat → Prop} (h : ∃ n, p n) : p (leastN p) ∧ ∀ m, p m → leastN p ≤ m := by
  unfold leastN; rw [dif_pos h]; exact (least_of h).choose_spec
section
variable {P : Program} {T : Tab} {n : Nat}
/-- loops whose measure is told beside the world -/
theorem loopLG (hT : T.ok P = true) (m : Nat) (keep slots : List Nat) (I : Nat → List Value → World → Prop) {body : Code} {Q : KS} {F : Nat → Value} {w : World} (hok : okB m keep slots body = true) (h0 : ∃ n, I n (mapF F slots) w)
    (hr : ∀ i vs g w, vs.length = slots.length → I i vs w → S P T n body { Q with nrm := fun F' w' => ∃ i', i' < i ∧ I i' (mapF F' slots) w' } (hdF m keep (zipS slots vs) g F) w) : DeepS P T n (.loop body) Q F w :=
  loopL hT m keep slots (fun vs u => ∃ i, I i vs u) (fun vs u => leastN fun i => I i vs u) hok h0 fun vs g u hl hI => by
    obtain ⟨h1, _⟩ := leastN_spec hI
    refine S_mono body _ _ _ _ (hr _ vs g u hl h1) (fun G w' _ h => ?_) (fun _ _ _ _ h => h) (fun _ _ _ h => h) (fun _ _ _ _ h => h)
    obtain ⟨i', hlt, hi⟩ := h
    exact ⟨⟨i', hi⟩, Nat.lt_of_le_of_lt ((leastN_spec ⟨i', hi⟩).2 i' hi) hlt⟩
theorem loop0G (hT : T.ok P = true) (m : Nat) (keep : List Nat) (I : Nat → World → Prop) {body : Code} {Q : KS} {F : Nat → Value} {w : World} (hok : okB m keep [] body = true) (h0 : ∃ n, I n w)
    (hr : ∀ i g w, I i w → S P T n body { Q with nrm := fun _ w' => ∃ i', i' < i ∧ I i' w' } (hdF m keep [] g F) w) : DeepS P T n (.loop body) Q F w :=
  loopLG hT m keep [] (fun i _ u => I i u) hok h0 fun i vs g u hl hI => by
    have : vs = [] := List.eq_nil_of_length_eq_zero hl
    subst this
    exact hr i g u hI
theorem loop1G (hT : T.ok P = true) (m : Nat) (keep : List Nat) (s1 : Nat) (I : Nat → Value → World → Prop) {body : Code} {Q : KS} {F : Nat → Value} {w : World} (hok : okB m keep [s1] body = true) (h0 : ∃ n, I n (F s1) w)
    (hr : ∀ i v1 g w, I i v1 w → S P T n body { Q with nrm := fun F' w' => ∃ i', i' < i ∧ I i' (F' s1) w' } (hdF m keep [(s1, v1)] g F) w) : DeepS P T n (.loop body) Q F w :=
  loopLG hT m keep [s1] (fun i vs u => match vs with | [v] => I i v u | _ => False) hok h0 fun i vs g u hl hI => by
    match vs, hI with
    | [v], hI => exact hr i v g u hI
end
/-- blocks that step through maps -/
def isIt : Obj → Bool
  | .mapIter .. => true
  | _ => false
/-- only blocks from B on that step through maps are others -/
abbrev ItQ (B : Nat) (u u' : World) : Prop := Fr (fun i => B ≤ i ∧ ∃ o, u.heap[i]? = some o ∧ isIt o = true) u u'
theorem Bk.itq {B : Nat} {u u' : World} {b : Nat} {cs : List Value} {e : TypeId} (k : Bk u b cs e) (q : ItQ B u u') : Bk u' b cs e :=
  k.fr q fun ⟨_, o, h1, h2⟩ => by rw [k.h] at h1; cases h1; cases h2
theorem Own.itq {α : Type} [Enc α] {B C : Nat} {e : TypeId} {u u' : World} {v : Value} {l : List α} (h : Own C e u v l) (q : ItQ B u u') : Own C e u' v l := by
  rcases h with ⟨h1, h2⟩ | h
  · exact .inl ⟨h1, h2⟩
  · rcases h.2 with ⟨rfl, h1⟩ | ⟨g, cap, cur, rfl, hg, hgg, rest⟩
    · exact .inr ⟨h.1, .inl ⟨rfl, h1⟩⟩
    · exact .inr ⟨h.1, .inr ⟨g, cap, cur, rfl, hg, q.blk hgg (fun ⟨_, o, h1, h2⟩ => by rw [hgg] at h1; cases h1; cases h2), rest⟩⟩
/-- maps, what steps through them, and block b are kept -/
def ItR (b : Nat) (u u' : World) : Prop := ∀ i o, u.heap[i]? = some o → (isIt o = true ∨ (∃ es c, o = .map es c) ∨ (i = b ∧ isRec o = false)) → u'.heap[i]? = some o
theorem ItR.of_ext {b : Nat} {u u' : World} (e : Ext u u') : ItR b u u' := fun _ _ h _ => e.blk0 h
theorem ItR.of_qt {b B : Nat} {u u' : World} (q : Qt B u u') : ItR b u u' := fun i o h hc => q.block i o h (.inr (by
  rcases hc with h | ⟨es, c, rfl⟩ | h
  · cases o <;> first | rfl | cases h
  · rfl
  · exact h.2))
theorem ItR.trans {b : Nat} {u u' u'' : World} (h : ItR b u u') (k : ItR b u' u'') : ItR b u u'' := fun i o ho hc => k i o (h i o ho hc) hc
/-- cells are written, not b -/
theorem ItR.of_cell {b b' : Nat} {u u' : World} {cs : List Value} {e : TypeId} (f : Fr (fun i => i = b') u u') (k : Bk u b' cs e) (hne : b ≠ b') : ItR b u u' := fun i o ho hc => f.blk' ho fun hi => by
  subst hi
  rw [k.h] at ho; cases ho
  rcases hc with h | ⟨es, c, h⟩ | h
  · cases h
  · cases h
  · exact hne h.1.symm
theorem ItR.of_own {α : Type} [Enc α] {b B C : Nat} {u u' : World} {e : TypeId} {v : Value} {l : List α} (f : Fr (ownD B v) u u') (O : Own C e u v l) (hb : ¬ ownD B v b) : ItR b u u' := fun i o ho hc => f.blk' ho fun hi => by
  rcases hc with h | ⟨es, c, rfl⟩ | h
  · exact obj_notOwn ho (by intro c t z he; subst he; cases h) O hi
  · exact obj_notOwn ho (by simp) O hi
  · exact hb (h.1 ▸ hi)
theorem ItB.itr {P : Program} {kt : TypeId} {κ : Type} [DecidableEq κ] [M : MKey P kt κ] {w w' : World} {r b c : Nat} {rest : List (κ × Value)} (h : ItB P kt w r b rest) (q : ItR c w w') : ItB P kt w' r b rest := by
  obtain ⟨Z, c', s, h1, h2, h3, h4⟩ := h
  exact ⟨Z, c', s, h1, q b _ h2 (.inr (.inl ⟨_, _, rfl⟩)), q r _ h3 (.inl rfl), h4⟩
theorem ItB.itq {P : Program} {kt : TypeId} {κ : Type} [DecidableEq κ] [M : MKey P kt κ] {w w' : World} {r b : Nat} {rest : List (κ × Value)} (h : ItB P kt w r b rest) (f : Fr (fun i => i = r) w w') {B : Nat} (hB : B ≤ r) : ItQ B w w' :=
  f.mono fun i _ hi => by
    subst hi
    obtain ⟨Z, c', s, h1, h2, h3, h4⟩ := h
    exact ⟨hB, _, h3, rfl⟩
end Go.W
