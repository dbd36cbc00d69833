/-
  Proved here: the predicate transformer is sound for the model.
  Conditions: those that each fact names.
-/
import Derived.Test.YtgplodgpbhddbaaW1
import Derived.Scope
set_option linter.unusedSimpArgs false
namespace Go.W
open Go

/-! soundness -/
def upR (P : Program) (k : Value → World → Prop) (pn : List PanicEntry → World → Prop) : Result Next → Prop
  | .ok (.value v) w' => k v w'
  | .ok .skip w' => k undef w'
  | .ok (.enter f args) w' => Calls P f args w' (RetP k pn)
  | .ok (.round l f tmps assign body) w' => RoundIn Fence.wide 0 P l f tmps assign body w' (RetP k pn)
  | .halt (.panic v) w' => pn [{ v, recovered := false }] w'
  | _ => False

theorem callsIn_fw {P : Program} (r : Option Nat) {n : Nat} {f : FuncId} {args : Array Value} {w : World} {R : Ending → World → Prop} (h : Calls P f args w R) : CallsIn (fw r) n P f args w R := callsIn_wide (n := n).2 h
theorem room_fw (r : Option Nat) (n : Nat) : (fw r).room n := fun _ h => by simp [fw, Fence.wide] at h

theorem upon_of_upR {P : Program} {md : Option Nat} {o : Oper} {a : Act} {next : Act → World → Prop} {Q : Exit → Act → World → Prop} {k : Value → World → Prop}
    {pn : List PanicEntry → World → Prop} {r : Result Next} (h : upR P k pn r) (hk : ∀ v w, k v w → next (a.put o.dst v) w)
    (hp : ∀ c w, pn c w → Q (.panic c) a w) : o.uponIn (fw md) 0 P a next Q r := by
  cases r with
  | ok x w' =>
    cases x <;> simp only [upR] at h <;> simp only [Oper.uponIn]
    case value v => exact hk _ _ h
    case skip => exact hk _ _ h
    case enter f args =>
      refine ⟨fun h => by simp [fw, Fence.wide] at h, callsIn_fw md (h.mono ?_)⟩
      intro e w'' he
      cases e with
      | returned v => exact hk _ _ he
      | panicked c => exact hp _ _ he
      | outgrown => exact he.elim
    case round l f tmps assign body =>
      refine ⟨fun h => by simp [fw, Fence.wide] at h, ?_⟩
      have h : RoundIn (fw md) 0 P l f tmps assign body w' (RetP k pn) := h
      refine h.mono ?_
      intro e w'' he
      cases e with
      | returned v => exact hk _ _ he
      | panicked c => exact hp _ _ he
      | outgrown => exact he.elim
  | halt x w' =>
    cases x <;> simp only [upR] at h <;> simp only [Oper.uponIn]
    exact hp _ _ h

section
variable {P : Program} {k : Value → World → Prop} {pn : List PanicEntry → World → Prop} {w : World}

theorem upR_v {s : Sem Value} (h : SemV P s k pn w) : upR P k pn ((do let x ← s; pure (Next.value x) : Sem Next).run P w) := by
  rw [SemV_iff] at h
  rw [Sem.run_bind]
  cases hr : s.run P w with
  | ok v w' => simp only [hr] at h; simpa [upR] using h
  | halt x w' => simp only [hr] at h; cases x <;> simp_all [upR]

theorem upR_u {s : Sem Unit} (h : SemU P s k pn w) : upR P k pn ((do s; pure Next.skip : Sem Next).run P w) := by
  rw [SemU_iff] at h
  rw [Sem.run_bind]
  cases hr : s.run P w with
  | ok v w' => simp only [hr] at h; simpa [upR] using h
  | halt x w' => simp only [hr] at h; cases x <;> simp_all [upR]

theorem upR_next {s : Sem Next} (h : NextS P s k pn w) : upR P k pn (s.run P w) := by
  rw [NextS_iff] at h
  cases hr : s.run P w with
  | ok v w' =>
    simp only [hr] at h
    cases v <;> simp only [upR] <;> simp only at h <;> try exact h
    · rw [CallS_iff] at h; exact h.2
    · exact h.out
  | halt x w' => simp only [hr] at h; cases x <;> simp_all [upR]

theorem kindEq_eq : ∀ {a b : IntKind}, kindEq a b = true → a = b := by
  intro a b h; cases a <;> cases b <;> simp_all [kindEq]

theorem evL_eq (F : Nat → Value) (l : List Operand) : evL F l = l.map (ev F) := by
  induction l with
  | nil => rfl
  | cons x r ih => simp [evL, ih]
theorem evL_arr (F : Nat → Value) (l : Array Operand) : (evL F l.toList).toArray = l.map (ev F) := by
  rw [evL_eq, ← Array.toList_map, Array.toArray_toList]

theorem evP_arr (F : Nat → Value) (l : Array (Nat × Operand)) : (evP F l.toList).toArray = l.map (fun (i, x) => (i, ev F x)) := by
  have : ∀ m : List (Nat × Operand), evP F m = m.map (fun (i, x) => (i, ev F x)) := by
    intro m; induction m with
    | nil => rfl
    | cons x r ih => obtain ⟨i, y⟩ := x; simp [evP, ih]
  rw [this, ← Array.toList_map, Array.toArray_toList]

theorem nth_eq {α : Type} (l : List α) (i : Nat) : nth l i = l[i]? := by
  induction l generalizing i with
  | nil => simp [nth]
  | cons x r ih => cases i <;> simp [nth, ih]

theorem run_v (s : Sem Value) (w : World) : (do let x ← s; pure (Next.value x) : Sem Next).run P w = (s.run P w).andThen fun v w' => .ok (.value v) w' := by
  rw [Sem.run_bind]; rfl

theorem eqGuard_int (op : BinOp) (t : TypeId) (x y : Operand) (kx ky : IntKind) (m n : Int) (w : World) :
    (eqGuard op t x y (.int kx m) (.int ky n)).run P w = .ok () w := by
  cases op <;> rfl

theorem upR_bin {op : BinOp} {t : TypeId} {x y : Operand} {a b : Value} (h : binS P op t x y a b k pn w) :
    upR P k pn ((do let v ← (do eqGuard op t x y a b; binOp op t a b : Sem Value); pure (Next.value v) : Sem Next).run P w) := by
  by_cases hi : (∃ kx m, a = .int kx m) ∧ (∃ ky n, b = .int ky n)
  · obtain ⟨⟨kx, m, rfl⟩, ⟨ky, n, rfl⟩⟩ := hi
    simp only [binS] at h
    cases hk : kindEq kx ky with
    | false => simp only [hk, cond_false] at h
    | true =>
      simp only [hk, cond_true] at h
      obtain rfl := kindEq_eq hk
      have key : ∀ v, (binOp op t (.int kx m) (.int kx n)).run P w = .ok v w → k v w → upR P k pn ((do let v ← (do eqGuard op t x y (.int kx m) (.int kx n); binOp op t (.int kx m) (.int kx n) : Sem Value); pure (Next.value v) : Sem Next).run P w) := by
        intro v hv hkv
        rw [run_v, Sem.run_bind, eqGuard_int]
        simp only [Result.andThen_ok, hv, upR]; exact hkv
      cases op <;> simp only [cmpS, ArS_iff, DivS_iff, RemS_iff] at h <;> first
        | exact upR_v h
        | (refine key _ ?_ h; simp [binOp, Op.intArith]; done)
        | (obtain ⟨h0, h1⟩ := h; refine key _ ?_ h1; simp [binOp, Op.intDiv, h0]; done)
        | (rcases Classical.em _ with hp | hp
           · refine key (.bool true) ?_ (h.t hp); simp [binOp, Op.intCmp]; first | exact hp | omega
           · refine key (.bool false) ?_ (h.f hp); simp [binOp, Op.intCmp]; first | exact hp | omega)
  · have : binS P op t x y a b k pn w = SemV P (do eqGuard op t x y a b; binOp op t a b) k pn w := by
      unfold binS
      split
      · rename_i kx m ky n; exact absurd ⟨⟨kx, m, rfl⟩, ⟨ky, n, rfl⟩⟩ hi
      · rfl
    rw [this] at h
    exact upR_v h
end

def Tab.chkK (P : Program) (e : Nat × Nat) : Bool :=
  match e.2 with
  | 1 => match P.underlying e.1 with | some (.slice _) => true | _ => false
  | 2 => match P.underlying e.1 with | some .string => true | _ => false
  | _ => true
def Tab.chkF (P : Program) (fs : List Field) : List (Option Nat) → Bool
  | [] => true
  | o :: r => match fs with
    | [] => false
    | f :: fs' => (match o with
      | none => true
      | some d => Nat.beq f.offset d && (match P.info? f.type with | some i => !Nat.beq i.size 0 | none => false)) && Tab.chkF P fs' r
def Tab.chkO (P : Program) (e : Nat × List (Option Nat)) : Bool :=
  match P.underlying e.1 with
  | some (.struct fs) => Tab.chkF P fs.toList e.2
  | _ => false
def Tab.ok (P : Program) (T : Tab) : Bool := T.kinds.all (Tab.chkK P) && T.offs.all (Tab.chkO P)

theorem lk_mem {α : Type} (l : List (Nat × α)) (t : Nat) (d : α) : lk l t d = d ∨ (t, lk l t d) ∈ l := by
  induction l with
  | nil => exact .inl rfl
  | cons x r ih =>
    obtain ⟨j, v⟩ := x
    unfold lk
    cases h : Nat.beq j t with
    | true => rw [Nat.eq_of_beq_eq_true h]; right; simp
    | false => rcases ih with h' | h'
               · left; simpa using h'
               · right; simp only [cond_false]; exact List.mem_cons_of_mem _ h'

theorem Tab.slice {P : Program} {T : Tab} (hT : T.ok P = true) {t : Nat} (h : lk T.kinds t 0 = 1) : ∃ e, P.underlying t = some (.slice e) := by
  simp only [Tab.ok, Bool.and_eq_true, List.all_eq_true] at hT
  rcases lk_mem T.kinds t 0 with h' | h'
  · rw [h] at h'; cases h'
  · rw [h] at h'
    have := hT.1 _ h'
    simp only [Tab.chkK] at this
    split at this
    · exact ⟨_, ‹_›⟩
    · cases this
theorem Tab.string {P : Program} {T : Tab} (hT : T.ok P = true) {t : Nat} (h : lk T.kinds t 0 = 2) : P.underlying t = some .string := by
  simp only [Tab.ok, Bool.and_eq_true, List.all_eq_true] at hT
  rcases lk_mem T.kinds t 0 with h' | h'
  · rw [h] at h'; cases h'
  · rw [h] at h'
    have := hT.1 _ h'
    simp only [Tab.chkK] at this
    split at this
    · assumption
    · cases this
theorem Tab.chkF_get {P : Program} : ∀ (fs : List Field) (l : List (Option Nat)) (i d : Nat), Tab.chkF P fs l = true → l[i]? = some (some d) →
    ∃ f, fs[i]? = some f ∧ f.offset = d ∧ ∃ j, P.info? f.type = some j ∧ j.size ≠ 0
  | _, [], i, d, _, h => by simp at h
  | [], o :: r, i, d, h, _ => by simp [Tab.chkF] at h
  | f :: fs, o :: r, 0, d, h, h' => by
    simp only [List.getElem?_cons_zero, Option.some.injEq] at h'
    subst h'
    simp only [Tab.chkF, Bool.and_eq_true] at h
    obtain ⟨⟨h1, h2⟩, _⟩ := h
    refine ⟨f, rfl, Nat.eq_of_beq_eq_true h1, ?_⟩
    split at h2
    · rename_i j hj; exact ⟨j, hj, by intro h0; simp [h0] at h2⟩
    · cases h2
  | f :: fs, o :: r, i + 1, d, h, h' => by
    simp only [Tab.chkF, Bool.and_eq_true] at h
    simpa using Tab.chkF_get fs r i d h.2 (by simpa using h')
theorem Tab.field {P : Program} {T : Tab} (hT : T.ok P = true) {s f d : Nat} (h : nth (lk T.offs s []) f = some (some d)) :
    ∃ fs fd, P.underlying s = some (.struct fs) ∧ fs[f]? = some fd ∧ fd.offset = d ∧ ∃ j, P.info? fd.type = some j ∧ j.size ≠ 0 := by
  simp only [Tab.ok, Bool.and_eq_true, List.all_eq_true] at hT
  rw [nth_eq] at h
  rcases lk_mem T.offs s [] with h' | h'
  · rw [h'] at h; simp at h
  · have := hT.2 _ h'
    simp only [Tab.chkO] at this
    split at this
    · rename_i fs hfs
      obtain ⟨fd, h1, h2, h3⟩ := Tab.chkF_get _ _ _ _ this h
      exact ⟨fs, fd, hfs, by simpa using h1, h2, h3⟩
    · cases this

section
variable {P : Program} {T : Tab} {k : Value → World → Prop} {pn : List PanicEntry → World → Prop} {w : World}

theorem run_field (hT : T.ok P = true) {s f d b o : Nat} (h : nth (lk T.offs s []) f = some (some d)) (w : World) :
    (Instr.fieldAt s (.pointer (some ⟨b, o, none⟩)) f).run P w = .ok (.pointer (some ⟨b, o + d, none⟩)) w := by
  obtain ⟨fs, fd, h1, h2, h3, j, h4, h5⟩ := Tab.field hT h
  have : (⟨b, o, none⟩ : Addr).add d = ⟨b, o + d, none⟩ := by
    unfold Addr.add; split <;> simp_all
  simp [Instr.fieldAt, underlying, h1, h2, Instr.sureAddr, fieldPlace, sizeOf, typeInfo, h4, h5, h3, this]

theorem run_len_slice {t ty : TypeId} {e : TypeId} (h : P.underlying t = some (.slice e)) (a : Option Addr) (n c : Nat) (w : World) :
    (Builtin.len_ #[t] ty #[.slice a n c]).run P w = .ok (.int .i64 n) w := by
  simp [Builtin.len_, underlying, h, goInt]
theorem run_len_string {t ty : TypeId} (h : P.underlying t = some .string) (s : ByteArray) (w : World) :
    (Builtin.len_ #[t] ty #[.string s]).run P w = .ok (.int .i64 s.size) w := by
  simp [Builtin.len_, underlying, h, goInt]

theorem callFunc_run {f : FuncId} {args : Array Value} (h : callable P f) (w : World) : (callFunc f args).run P w = .ok (.enter f args) w := by
  obtain ⟨fn, h1, h2, h3⟩ := h
  have h4 : fn.body ≠ none := by intro hb; simp [hb] at h2
  have h5 : fn.name ≠ "runtime.NumGoroutine" := by simpa using h3
  simp [callFunc, h1, h4, h5]

theorem opS_run (hT : T.ok P = true) {o : Oper} {F : Nat → Value} (h : opS P T o F k pn w) : upR P k pn ((execOp (ev F) o).run P w) := by
  unfold opS at h
  unfold execOp
  split at h <;> rename_i ho <;> simp only [ho]
  · simpa [upR] using h
  · simpa [upR] using h
  · unfold pickS at h
    split at h
    · rename_i c hc
      simp only [hc, asBool]
      cases c <;> simpa [upR] using h
    · exact h.elim
  · exact upR_bin h
  · unfold unS at h
    split at h
    · rename_i b hb
      simpa [hb, Op.unary, upR] using h
    · exact upR_v h
  · unfold fieldS at h
    split at h
    · rename_i b o hb
      split at h
      · rename_i d hd
        rw [run_v, hb, run_field hT hd]
        simpa [upR] using h
      · exact upR_v (by rw [hb] at h; rw [hb]; exact h)
    · exact upR_v h
  · rename_i t i
    unfold extS at h
    split at h
    · rename_i vs hv
      rw [nth_eq] at h
      split at h
      · rename_i v hvv
        have : vs[i]? = some v := by simpa using hvv
        simp only [hv, Instr.extract, this]
        simpa [upR] using h
      · exact h.elim
    · exact h.elim
  · rw [evL_arr, evL_arr] at h
    simpa [Instr.makeFunc, upR] using h
  · rename_i c
    have alt : NextS P (execOp (ev F) o) k pn w → upR P k pn ((do let d ← resolve (ev F) c o.type; invoke d.target d.args : Sem Next).run P w) := by
      intro h
      have := upR_next h
      simpa [execOp, ho] using this
    have bi : ∀ b s, c.callee = .builtin b → (∀ consts, builtin b c.argTypes o.type consts (c.args.map (ev F)) = (do let x ← s; pure (Next.value x))) →
        upR P k pn ((do let x ← s; pure (Next.value x) : Sem Next).run P w) → upR P k pn ((do let d ← resolve (ev F) c o.type; invoke d.target d.args : Sem Next).run P w) := by
      intro b s hc hb h
      have : (do let d ← resolve (ev F) c o.type; invoke d.target d.args : Sem Next) = (do let x ← s; pure (Next.value x)) := by
        simp only [resolve, hc, pure_bind, invoke]
        exact hb _
      rw [this]; exact h
    unfold callS at h
    split at h
    · rename_i f hf
      unfold fnS at h
      split at h
      · rename_i g first captured hg
        rw [CallS_iff] at h
        have e : (do let d ← resolve (ev F) c o.type; invoke d.target d.args : Sem Next) = callFunc g (first ++ c.args.map (ev F) ++ captured) := by
          simp only [resolve, hf, Deferred.ofValue, hg, pure_bind, invoke]
        rw [e, callFunc_run h.1]
        have e2 : (first.toList ++ evL F c.args.toList ++ captured.toList).toArray = first ++ c.args.map (ev F) ++ captured := by
          rw [evL_eq]; simp
        rw [e2] at h
        exact h.2
      · exact alt h
    · exact alt h
    · rename_i b hb
      split at h
      · split at h
        · rename_i x t hx ht
          have hx' : c.args = #[x] := by rw [← Array.toArray_toList (xs := c.args), hx]
          have ht' : c.argTypes = #[t] := by rw [← Array.toArray_toList (xs := c.argTypes), ht]
          unfold lenS at h
          split at h
          · rename_i a n cc hv
            split at h
            · rename_i h1
              obtain ⟨e, he⟩ := Tab.slice hT h1
              refine bi _ (Builtin.len_ c.argTypes o.type (c.args.map (ev F))) hb (fun _ => rfl) ?_
              rw [run_v, hx', ht']; simp only [List.map_toArray, List.map_cons, List.map_nil, hv, run_len_slice he]
              exact h
            · exact h.elim
          · rename_i s hv
            split at h
            · rename_i h1
              have he := Tab.string hT h1
              refine bi _ (Builtin.len_ c.argTypes o.type (c.args.map (ev F))) hb (fun _ => rfl) ?_
              rw [run_v, hx', ht']; simp only [List.map_toArray, List.map_cons, List.map_nil, hv, run_len_string he]
              exact h
            · exact h.elim
          · exact alt h
        · exact h.elim
      all_goals first
        | exact alt h
        | (rw [evL_arr] at h; exact bi _ _ hb (fun _ => rfl) (upR_v h))
  all_goals first
    | exact upR_v h
    | (rw [evP_arr] at h; exact upR_v h)
    | exact upR_u h
    | exact h.elim
    | (unfold nilS at h
       split at h
       · rename_i a ha
         simp only [ha]
         simpa [upR] using h
       · have := upR_next h
         unfold execOp at this
         simpa only [ho] using this)
    | (have := upR_next h; unfold execOp at this; simpa only using this)
end

/-! regions and code -/
theorem upd_self (F : Nat → Value) (d : Nat) : upd F d (F d) = F := by
  funext t
  unfold upd
  cases h : Nat.beq t d with
  | true => simp [Nat.eq_of_beq_eq_true h]
  | false => simp

section
variable {P : Program} {T : Tab} {n : Nat}

theorem Rel.eval {F : Nat → Value} {a : Act} (h : Rel n F a) : a.eval = ev F := by
  funext x
  cases x <;> simp only [Act.eval, ev]
  rename_i t
  split
  · rename_i hb
    have ht := Nat.eq_of_beq_eq_true hb
    have : a.tmps[t]? = none := Array.getElem?_eq_none (by rw [h.size, ht]; exact h.le)
    simp [Array.getD_eq_getD_getElem?, this]
  · rename_i hb
    exact h.get t fun e => by subst e; simp at hb

theorem Rel.put {F : Nat → Value} {a : Act} (h : Rel n F a) {d : Option Nat} {v : Value} {k : (Nat → Value) → Prop} (hk : putS n F d v k) :
    ∃ F', Rel n F' (a.put d v) ∧ agree (isD d) F F' ∧ k F' := by
  cases d with
  | none => exact ⟨F, h, fun _ _ => rfl, hk⟩
  | some d =>
    simp only [putS] at hk
    split at hk
    · rename_i hb
      have hlt : d < n := by simpa [Nat.blt_eq] using hb
      refine ⟨upd F d v, ⟨?_, h.le, ?_, ?_⟩, ?_, hk⟩
      · simp [Act.put, h.size]
      · have hne : Nat.beq 4294967296 d = false := by
          cases hq : Nat.beq 4294967296 d with
          | false => rfl
          | true => have := Nat.eq_of_beq_eq_true hq; have := h.le; omega
        show a.defers = decD (upd F d v 4294967296)
        unfold upd; rw [hne]; exact h.defers
      · intro t htk
        have hs := h.size
        have := h.get t htk
        unfold upd
        simp only [Act.put, Array.getD_eq_getD_getElem?, Array.getElem?_setIfInBounds] at this ⊢
        cases hb : Nat.beq t d with
        | true => rw [Nat.eq_of_beq_eq_true hb]; simp [hs, hlt]
        | false =>
          have : d ≠ t := fun e => by rw [e] at hb; simp at hb
          simpa [this] using h.get t htk
      · intro t ht
        simp only [isD] at ht
        unfold upd
        rw [ht]; rfl
    · exact hk.elim

theorem agree.trans {ws ws' : Nat → Bool} {A B C : Nat → Value} (h : agree ws A B) (h' : agree ws' B C) : agree (fun t => ws t || ws' t) A C := by
  intro t ht
  simp only [Bool.or_eq_false_iff] at ht
  rw [h' t ht.2, h t ht.1]
theorem agree.mono {ws ws' : Nat → Bool} {A B : Nat → Value} (h : agree ws A B) (hw : ∀ t, ws' t = false → ws t = false) : agree ws' A B :=
  fun t ht => h t (hw t ht)

/-- the post of a region, at the act -/
def LQ (n : Nat) (F0 : Nat → Value) (ws : Nat → Bool) (k : (Nat → Value) → World → Prop) (pn : (Nat → Value) → List PanicEntry → World → Prop) : Exit → Act → World → Prop := fun e a w =>
  match e with
  | .normal => ∃ F', Rel n F' a ∧ agree ws F0 F' ∧ k F' w
  | .panic c => ∃ F', Rel n F' a ∧ agree ws F0 F' ∧ pn F' c w
  | _ => False

theorem opS_noDefer {o : Oper} {F : Nat → Value} {k : Value → World → Prop} {pn : List PanicEntry → World → Prop} {w : World} (h : opS P T o F k pn w) : ∀ c, o.op ≠ .defer c := by
  intro c hc
  unfold opS at h
  rw [hc] at h
  exact h

theorem opS_wp (hT : T.ok P = true) {md : Option Nat} {o : Oper} {F : Nat → Value} {k : Value → World → Prop} {pn : List PanicEntry → World → Prop} {w : World} (h : opS P T o F k pn w)
    {a : Act} (ha : Rel n F a) {next : Act → World → Prop} {Q : Exit → Act → World → Prop}
    (hk : ∀ v w, k v w → next (a.put o.dst v) w) (hp : ∀ c w, pn c w → Q (.panic c) a w) : o.wpIn (fw md) 0 P a w next Q := by
  refine ⟨fun _ _ => trivial, ?_⟩
  rw [Oper.semAt_eq _ _ _ (opS_noDefer h), ha.eval]
  exact upon_of_upR (opS_run hT h) hk hp

theorem decD1_fn (fn : Fn) (first cap : Array Value) (args : List Value) : decD1 (.agg (.func fn first cap :: args).toArray) = some { target := .fn fn cap, args := first ++ args.toArray } := rfl
theorem isD_kd {d : Option Nat} {n : Nat} {F : Nat → Value} {v : Value} {k : (Nat → Value) → Prop} (hn : n ≤ 4294967296) (h : putS n F d v k) : isD d 4294967296 = false := by
  cases d with
  | none => rfl
  | some d =>
    simp only [putS] at h
    split at h
    · rename_i hb
      have : d < n := by simpa [Nat.blt_eq] using hb
      cases hq : Nat.beq 4294967296 d with
      | false => exact hq
      | true => have := Nat.eq_of_beq_eq_true hq; omega
    · exact h.elim

theorem opsS_wp (hT : T.ok P = true) {md : Option Nat} (hmd : md.isSome = T.round) (all : Array Oper) (F0 : Nat → Value) (k : (Nat → Value) → World → Prop) (pn : (Nat → Value) → List PanicEntry → World → Prop) :
    ∀ (l : List Oper) (ws0 : Nat → Bool) (F : Nat → Value) (w : World) (a : Act), Rel n F a → agree ws0 F0 F → opsS P T n all.toList l F k pn w →
      wpListIn (fw md) 0 P all (LQ n F0 (fun t => ws0 t || wrL l t) k pn) l a w := by
  intro l
  induction l with
  | nil =>
    intro ws0 F w a ha h0 h
    exact ⟨F, ha, h0.mono (by simp [wrL]), h⟩
  | cons o rest ih =>
    intro ws0 F w a ha h0 h
    have wide : ∀ {G : Nat → Value}, agree ws0 F0 G → agree (fun t => ws0 t || wrL (o :: rest) t) F0 G := fun h => h.mono (by intro t ht; simp only [Bool.or_eq_false_iff] at ht; exact ht.1)
    have step : ∀ {G : Nat → Value} {v : Value} {w' : World}, Rel n G a → agree ws0 F0 G → putS n G o.dst v (fun F' => opsS P T n all.toList rest F' k pn w') →
        wpListIn (fw md) 0 P all (LQ n F0 (fun t => ws0 t || wrL (o :: rest) t) k pn) rest (a.put o.dst v) w' := by
      intro G v w' hG h0G hp
      obtain ⟨F', h1, h2, h3⟩ := hG.put hp
      have := ih (fun t => ws0 t || wrO o t) F' w' (a.put o.dst v) h1 ((h0G.trans h2).mono (by intro t ht; simp only [wrO, Bool.or_eq_false_iff] at ht ⊢; exact ⟨ht.1, ht.2.1⟩)) h3
      have e : (fun t => (ws0 t || wrO o t) || wrL rest t) = (fun t => ws0 t || wrL (o :: rest) t) := by
        funext t; simp [wrL, Bool.or_assoc]
      rw [e] at this
      exact this
    have run : ∀ {G : Nat → Value}, Rel n G a → agree ws0 F0 G → opS P T o G (fun v w' => putS n G o.dst v fun F' => opsS P T n all.toList rest F' k pn w') (pn G) w →
        ∀ K : Act → World → Prop, (∀ a w, wpListIn (fw md) 0 P all (LQ n F0 (fun t => ws0 t || wrL (o :: rest) t) k pn) rest a w → K a w) → o.wpIn (fw md) 0 P a w K (LQ n F0 (fun t => ws0 t || wrL (o :: rest) t) k pn) := by
      intro G hG h0G hop K hK
      exact opS_wp hT hop hG (fun v w' hv => hK _ _ (step hG h0G hv)) fun c w' hc => ⟨G, hG, wide h0G, hc⟩
    refine wpListIn_step fun K hK => ?_
    by_cases hdef : ∃ c, o.op = .defer c
    · obtain ⟨c, hc⟩ := hdef
      simp only [opsS_cons, opsStep, hc, defS] at h
      split at h
      case h_2 => exact h.elim
      rename_i f hr hg hd hcal
      split at h
      case h_2 => exact h.elim
      rename_i fn first cap hf
      have hmn : md = none := by cases md with | none => rfl | some _ => rw [hr] at hmd; cases hmd
      subst hmn
      simp only [Region.wanted, hg, if_true]
      refine ⟨fun _ _ => trivial, ?_⟩
      have he : (Oper.semAt none a.eval o).run P w = .ok (.defer { target := .fn fn cap, args := first ++ c.args.map (ev F) }) w := by
        rw [Oper.semAt_none, ha.eval]
        unfold execOp
        simp only [hc, resolve, hcal, hf]
        rfl
      show Oper.uponIn (fw none) 0 P o a K _ ((Oper.semAt none a.eval o).run P w)
      rw [he]
      simp only [Oper.uponIn, hd]
      refine hK _ _ ?_
      let v : Value := .agg (.func fn first cap :: evL F c.args.toList).toArray
      have hdec : decD (consD v (F 4294967296)) = { target := .fn fn cap, args := first ++ c.args.map (ev F) } :: decD (F 4294967296) := by
        rw [← evL_arr]; exact decD_cons v _ _ (decD1_fn fn first cap _)
      have hrel : Rel n (upd F 4294967296 (consD v (F 4294967296))) ({ a with defers := { target := .fn fn cap, args := first ++ c.args.map (ev F) } :: a.defers }.put none undef) := by
        refine ⟨ha.size, ha.le, ?_, fun t ht => ?_⟩
        · show _ :: a.defers = decD (upd F 4294967296 (consD v (F 4294967296)) 4294967296)
          unfold upd
          rw [show Nat.beq 4294967296 4294967296 = true from rfl, cond_true, hdec, ha.defers]
        · have hb : Nat.beq t 4294967296 = false := by
            cases hq : Nat.beq t 4294967296 with
            | false => rfl
            | true => exact absurd (Nat.eq_of_beq_eq_true hq) ht
          unfold upd; rw [hb]; exact ha.get t ht
      have hag : agree (fun t => ws0 t || wrO o t) F0 (upd F 4294967296 (consD v (F 4294967296))) := by
        intro t ht
        simp only [wrO, hc, isDef, Bool.true_and, Bool.or_eq_false_iff] at ht
        unfold upd; rw [ht.2.2]; exact h0 t ht.1
      have := ih (fun t => ws0 t || wrO o t) _ w _ hrel hag h
      have e : (fun t => (ws0 t || wrO o t) || wrL rest t) = (fun t => ws0 t || wrL (o :: rest) t) := by
        funext t; simp [wrL, Bool.or_assoc]
      rw [e] at this
      exact this
    have hstep : opsStep P T n all.toList o (opsS P T n all.toList rest) F k pn w = (match o.guard with
      | none => opS P T o F (fun v w' => putS n F o.dst v fun F' => opsS P T n all.toList rest F' k pn w') (pn F) w
      | some (j, want) => match nth all.toList j with
        | some g => match g.dst with
          | some d => match F d with
            | .bool b => match Nat.blt d n with
              | true => match want with
                | true => condS b (opS P T o (upd F d (.bool true)) (fun v w' => putS n (upd F d (.bool true)) o.dst v fun F' => opsS P T n all.toList rest F' k pn w') (pn (upd F d (.bool true))) w)
                    (putS n (upd F d (.bool false)) o.dst undef fun F' => opsS P T n all.toList rest F' k pn w)
                | false => condS b (putS n (upd F d (.bool true)) o.dst undef fun F' => opsS P T n all.toList rest F' k pn w)
                    (opS P T o (upd F d (.bool false)) (fun v w' => putS n (upd F d (.bool false)) o.dst v fun F' => opsS P T n all.toList rest F' k pn w') (pn (upd F d (.bool false))) w)
              | false => False
            | .tuple _ => putS n F o.dst undef fun F' => opsS P T n all.toList rest F' k pn w
            | _ => False
          | none => False
        | none => False) := by
      unfold opsStep
      cases ho : o.op <;> first | rfl | exact absurd ⟨_, ho⟩ hdef
    rw [opsS_cons, hstep] at h
    clear hstep
    cases hg : o.guard with
    | none =>
      simp only [hg] at h
      simp only [Region.wanted, hg, if_true]
      exact run ha h0 h K hK
    | some jw =>
      obtain ⟨j, want⟩ := jw
      simp only [hg] at h
      rw [nth_eq] at h
      split at h
      case h_2 => exact h.elim
      case h_1 g hgj =>
      split at h
      case h_2 => exact h.elim
      case h_1 d hd =>
      have hy : d < n → yielded all a.tmps j = match F d with | .bool b => some b | _ => none := by
        intro hdn
        have hgj' : all[j]? = some g := by simpa using hgj
        have := ha.get d (Nat.ne_of_lt (Nat.lt_of_lt_of_le hdn ha.le))
        have hs := ha.size
        simp only [yielded, hgj', Option.bind_some, hd]
        have e : a.tmps[d]? = some (F d) := by
          rw [← this, Array.getD_eq_getD_getElem?]
          rw [Array.getElem?_eq_getElem (by rw [hs]; exact hdn)]; rfl
        rw [e]
        cases F d <;> simp
      split at h
      · rename_i b hb
        have hF : upd F d (.bool b) = F := by rw [← hb]; exact upd_self F d
        split at h
        case h_2 => exact h.elim
        case h_1 hdn =>
        have hdn' : d < n := by simpa [Nat.blt_eq] using hdn
        have hy := hy hdn'
        simp only [hb] at hy
        cases want <;> cases b <;> simp only [condS, hF] at h <;> simp only [Region.wanted, hg, hy] <;> simp <;> first
          | exact run ha h0 h K hK
          | exact ⟨fun _ _ => trivial, hK _ _ (step ha h0 h)⟩
      · rename_i vs hb
        have hy : yielded all a.tmps j = none := by
          by_cases hdn : d < n
          · rw [hy hdn]; simp only [hb]
          · have hgj' : all[j]? = some g := by simpa using hgj
            have e : a.tmps[d]? = none := Array.getElem?_eq_none (by rw [ha.size]; exact Nat.le_of_not_lt hdn)
            simp only [yielded, hgj', Option.bind_some, hd, e]
        simp only [Region.wanted, hg, hy]
        simp
        exact ⟨fun _ _ => trivial, hK _ _ (step ha h0 h)⟩
      · exact h.elim

theorem lift_mono {Q Q' : KS} {F F' : Nat → Value} {ws ws' : Nat → Bool} (hn : ∀ G w, Rel n G = Rel n G → agree ws F G → Q.nrm G w → agree ws' F' G ∧ Q'.nrm G w)
    (he : ∀ i G w, agree ws F G → Q.ext i G w → agree ws' F' G ∧ Q'.ext i G w) (hr : ∀ G w, agree ws F G → Q.ret G w → agree ws' F' G ∧ Q'.ret G w)
    (hp : ∀ G c w, agree ws F G → Q.pan G c w → agree ws' F' G ∧ Q'.pan G c w) : ∀ e a w, Q.lift n F ws e a w → Q'.lift n F' ws' e a w := by
  intro e a w h
  cases e <;> simp only [KS.lift] at h ⊢
  · obtain ⟨G, h1, h2, h3⟩ := h; exact ⟨G, h1, hn _ _ rfl h2 h3⟩
  · obtain ⟨G, h1, h2, h3⟩ := h; exact ⟨G, h1, he _ _ _ h2 h3⟩
  · obtain ⟨G, h1, h2, h3⟩ := h; exact ⟨G, h1, hr _ _ h2 h3⟩
  · obtain ⟨G, h1, h2, h3⟩ := h; exact ⟨G, h1, hp _ _ _ h2 h3⟩

theorem stepR_scope {b : Frame} {a : Act} {k : List Item} {cs : List Frame} {w : World} {c : Code} : step P (lone (b.atR a (.code (.scope c) :: k)) cs w) = .next (lone (b.atR a (.code c :: .inScope c :: k)) cs w) :=
  step_lone_go (by simp [stepG, stepG.exec, Frame.atR])
theorem stepR_inScope {b : Frame} {a : Act} {k : List Item} {cs : List Frame} {w : World} {c : Code} : step P (lone (b.atR a (.inScope c :: k)) cs w) = .next (lone (b.atR a k) cs w) :=
  step_lone_go (by simp [stepG, stepG.exec, Frame.atR])
theorem fenced_fw (P : Program) (r : Option Nat) (m : Machine) : m.fenced P (fw r) := fenced_wide P m
theorem wpIn_scope_fw {r : Option Nat} {c : Code} {Q : Exit → Act → World → Prop} {a : Act} {w : World} (h : c.wpIn (fw r) 0 P (Exit.noGoto Q) a w) : (Code.scope c).wpIn (fw r) 0 P Q a w := by
  intro b k cs hro hb hr
  obtain ⟨e, a₁, w₁, hq, harr⟩ := h b (.inScope c :: k) cs hro hb hr
  cases e with
  | normal => exact ⟨.normal, a₁, w₁, hq, .head (fenced_fw P r _) stepR_scope (StepsIn.trans harr (.one (fenced_fw P r _) stepR_inScope))⟩
  | exit id =>
    exact ⟨.exit id, a₁, w₁, hq, fun k' hk => .head (fenced_fw P r _) stepR_scope (harr.1 k' (by simp [exitTo, hk])),
      fun hr' hk => let ⟨k₁, h1, h2⟩ := harr.2 hr' (by simp [exitTo, hk]); ⟨k₁, h1, .head (fenced_fw P r _) stepR_scope h2⟩⟩
  | goto l => exact hq.elim
  | ret => exact ⟨_, a₁, w₁, hq, .of_steps (.one (fenced_fw P r _) stepR_scope) harr⟩
  | panic ch => exact ⟨_, a₁, w₁, hq, .of_steps (.one (fenced_fw P r _) stepR_scope) harr⟩
  | outgrown => exact ⟨_, a₁, w₁, hq, .of_steps (.one (fenced_fw P r _) stepR_scope) harr⟩

theorem S_sound (hT : T.ok P = true) : ∀ (c : Code) (Q : KS) (F : Nat → Value) (w : World), S P T n c Q F w → ∀ md : Option Nat, md.isSome = T.round → ∀ a, Rel n F a → c.wpIn (fw md) 0 P (Q.lift n F (wr c)) a w := by
  intro c
  induction c with
  | skip => intro Q F w h md hmd a ha; exact wpIn_skip ⟨F, ha, fun _ _ => rfl, h⟩
  | label l => intro Q F w h md hmd a ha; exact wpIn_label ⟨F, ha, fun _ _ => rfl, h⟩
  | ret => intro Q F w h md hmd a ha; exact wpIn_ret ⟨F, ha, fun _ _ => rfl, h⟩
  | exit i => intro Q F w h md hmd a ha; exact wpIn_exit ⟨F, ha, fun _ _ => rfl, h⟩
  | region i ops draw =>
    intro Q F w h md hmd a ha
    cases draw with
    | false =>
      simp only [S_skip, S_label, S_ret, S_exit, S_seq, S_cond, S_block, S_scope, S_region, S_draw, S_loop, S_rangeFunc, S_goto, S_refuse] at h
      refine Code.wpIn_mono ?_ (wpIn_region_list (opsS_wp hT hmd ops F Q.nrm Q.pan ops.toList (fun _ => false) F w a ha (fun _ _ => rfl) h))
      intro e a' w' hq
      cases e <;> simp only [LQ] at hq <;> simp only [KS.lift]
      · simpa [wr] using hq
      · exact hq
    | true => simp only [S_skip, S_label, S_ret, S_exit, S_seq, S_cond, S_block, S_scope, S_region, S_draw, S_loop, S_rangeFunc, S_goto, S_refuse] at h; rw [DeepS_iff] at h; exact h md hmd a ha
  | seq x y ihx ihy =>
    intro Q F w h md hmd a ha
    simp only [S_skip, S_label, S_ret, S_exit, S_seq, S_cond, S_block, S_scope, S_region, S_draw, S_loop, S_rangeFunc, S_goto, S_refuse] at h
    refine wpIn_seq (Code.wpIn_mono ?_ (ihx _ F w h md hmd a ha))
    intro e a' w' hq
    cases e <;> simp only [KS.lift, Exit.then] at hq ⊢
    · obtain ⟨F', h1, h2, h3⟩ := hq
      refine Code.wpIn_mono ?_ (ihy _ F' w' h3 md hmd a' h1)
      refine lift_mono ?_ ?_ ?_ ?_
      · exact fun G w _ hG hk => ⟨by have := h2.trans hG; exact this, hk⟩
      · exact fun i G w hG hk => ⟨by have := h2.trans hG; exact this, hk⟩
      · exact fun G w hG hk => ⟨by have := h2.trans hG; exact this, hk⟩
      · exact fun G c w hG hk => ⟨by have := h2.trans hG; exact this, hk⟩
    · obtain ⟨F', h1, h2, h3⟩ := hq; exact ⟨F', h1, h2.mono (by intro t ht; simp only [wr, Bool.or_eq_false_iff] at ht; exact ht.1), h3⟩
    · obtain ⟨F', h1, h2, h3⟩ := hq; exact ⟨F', h1, h2.mono (by intro t ht; simp only [wr, Bool.or_eq_false_iff] at ht; exact ht.1), h3⟩
    · obtain ⟨F', h1, h2, h3⟩ := hq; exact ⟨F', h1, h2.mono (by intro t ht; simp only [wr, Bool.or_eq_false_iff] at ht; exact ht.1), h3⟩
  | cond c x y ihx ihy =>
    intro Q F w h md hmd a ha
    simp only [S_skip, S_label, S_ret, S_exit, S_seq, S_cond, S_block, S_scope, S_region, S_draw, S_loop, S_rangeFunc, S_goto, S_refuse] at h
    split at h
    · rename_i t ht
      have hc : a.eval c = .bool t := by rw [ha.eval]; exact ht
      cases t with
      | true =>
        refine wpIn_cond_true hc (Code.wpIn_mono ?_ (ihx _ F w h md hmd a ha))
        refine lift_mono ?_ ?_ ?_ (fun G c w hG hk => ⟨hG.mono (by intro t ht; simp only [wr, Bool.or_eq_false_iff] at ht; exact ht.1), hk⟩)
        · exact fun G w _ hG hk => ⟨hG.mono (by intro t ht; simp only [wr, Bool.or_eq_false_iff] at ht; exact ht.1), hk⟩
        · exact fun i G w hG hk => ⟨hG.mono (by intro t ht; simp only [wr, Bool.or_eq_false_iff] at ht; exact ht.1), hk⟩
        · exact fun G w hG hk => ⟨hG.mono (by intro t ht; simp only [wr, Bool.or_eq_false_iff] at ht; exact ht.1), hk⟩
      | false =>
        refine wpIn_cond_false hc (Code.wpIn_mono ?_ (ihy _ F w h md hmd a ha))
        refine lift_mono ?_ ?_ ?_ (fun G c w hG hk => ⟨hG.mono (by intro t ht; simp only [wr, Bool.or_eq_false_iff] at ht; exact ht.2), hk⟩)
        · exact fun G w _ hG hk => ⟨hG.mono (by intro t ht; simp only [wr, Bool.or_eq_false_iff] at ht; exact ht.2), hk⟩
        · exact fun i G w hG hk => ⟨hG.mono (by intro t ht; simp only [wr, Bool.or_eq_false_iff] at ht; exact ht.2), hk⟩
        · exact fun G w hG hk => ⟨hG.mono (by intro t ht; simp only [wr, Bool.or_eq_false_iff] at ht; exact ht.2), hk⟩
    · exact h.elim
  | block i c ih =>
    intro Q F w h md hmd a ha
    simp only [S_skip, S_label, S_ret, S_exit, S_seq, S_cond, S_block, S_scope, S_region, S_draw, S_loop, S_rangeFunc, S_goto, S_refuse] at h
    refine wpIn_block (Code.wpIn_mono ?_ (ih _ F w h md hmd a ha))
    intro e a' w' hq
    cases e <;> simp only [KS.lift, Exit.inBlock] at hq ⊢
    · exact hq
    · obtain ⟨F', h1, h2, h3⟩ := hq
      split at h3
      · rename_i hb; rw [if_pos (Nat.eq_of_beq_eq_true hb)]; exact ⟨F', h1, h2, h3⟩
      · rename_i j _ hb; rw [if_neg (fun e => by rw [e] at hb; simp at hb)]; exact ⟨F', h1, h2, h3⟩
    · exact hq
    · exact hq
  | scope c ih =>
    intro Q F w h md hmd a ha
    simp only [S_skip, S_label, S_ret, S_exit, S_seq, S_cond, S_block, S_scope, S_region, S_draw, S_loop, S_rangeFunc, S_goto, S_refuse] at h
    refine wpIn_scope_fw (Code.wpIn_mono ?_ (ih _ F w h md hmd a ha))
    intro e a' w' hq
    cases e <;> simp only [KS.lift, Exit.noGoto] at hq ⊢ <;> exact hq
  | _ => intro Q F w h md hmd a ha; simp only [S_skip, S_label, S_ret, S_exit, S_seq, S_cond, S_block, S_scope, S_region, S_draw, S_loop, S_rangeFunc, S_goto, S_refuse] at h; rw [DeepS_iff] at h; exact h md hmd a ha
end
end Go.W
