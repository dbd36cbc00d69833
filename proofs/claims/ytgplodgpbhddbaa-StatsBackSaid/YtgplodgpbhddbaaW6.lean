/-
  Proved here: statements whose order Go leaves open.
  Conditions: those that each fact names.
-/
import Derived.Test.YtgplodgpbhddbaaW5
import Derived.OrdersHeld
set_option linter.unusedSimpArgs false
namespace Go.W
open Go

/-! regions that draw their order -/
/-- in every world that comes it yields this -/
structure TakeS (P : Program) (s : Sem Value) (D : Nat → Prop) (k : Value → Prop) (w : World) : Prop where
  out : ∃ v, (∀ w', Fr D w w' → s.run P w' = .ok v w') ∧ k v
theorem TakeS_iff (P : Program) (s : Sem Value) (D : Nat → Prop) (k : Value → Prop) (w : World) : TakeS P s D k w ↔ (∃ v, (∀ w', Fr D w w' → s.run P w' = .ok v w') ∧ k v) := ⟨fun h => h.out, fun h => ⟨h⟩⟩


def takeK (o : Oper) : Bool :=
  match o.op with
  | .move _ | .assign _ | .pick .. | .binOp .. | .unOp .. | .fieldAddr .. | .extract .. | .makeFunc .. | .load .. | .indexAddr .. | .index .. | .slice .. | .build .. | .lookup .. | .convert .. | .field .. | .makeInterface .. | .typeAssert .. | .nilCheck .. => true
  | .call { callee := .builtin b, .. } => match b with | .len | .max | .min | .cap => true | _ => false
  | _ => false

def takeS (P : Program) (T : Tab) (D : Nat → Prop) (o : Oper) (F : Nat → Value) (k : Value → Prop) (w : World) : Prop :=
  match o.op with
  | .move x | .assign x => k (ev F x)
  | .pick c a b => pickS (ev F c) (ev F a) (ev F b) (fun v _ => k v) w
  | .binOp op t x y _ => match ev F x, ev F y with
    | .int kx m, .int ky n => bif kindEq kx ky then
        match op with
        | .add => ArS kx (m + n) (fun v _ => k v) w
        | .sub => ArS kx (m - n) (fun v _ => k v) w
        | .mul => ArS kx (m * n) (fun v _ => k v) w
        | .quo => DivS kx m n (fun v _ => k v) w
        | .rem => RemS kx m n (fun v _ => k v) w
        | op => cmpS op m n (fun v _ => k v) False w
      else False
    | a, b => TakeS P (do eqGuard op t x y a b; binOp op t a b) D k w
  | .unOp op _ x => match op, ev F x with
    | .not, .bool b => k (.bool (!b))
    | op, v => TakeS P (Op.unary op v) D k w
  | .fieldAddr s x f => fieldS T s f (ev F x) (TakeS P (Instr.fieldAt s (ev F x) f) D k w) (fun v _ => k v) w
  | .nilCheck x => nilS (ev F x) False (fun v _ => k v) w
  | .extract t i => extS (ev F t) i (fun v _ => k v) w
  | .makeFunc fn first captured => k (.func fn (evL F first.toList).toArray (evL F captured.toList).toArray)
  | .load t a => TakeS P (Instr.loadAt t (ev F a)) D k w
  | .indexAddr t x ix => TakeS P (Instr.indexAt t (ev F x) (ev F ix)) D k w
  | .index t x ix => TakeS P (Instr.index t (ev F x) (ev F ix)) D k w
  | .slice t x lo hi mx => TakeS P (Instr.sliceAt t (ev F x) (lo.map (ev F)) (hi.map (ev F)) (mx.map (ev F))) D k w
  | .build t parts => TakeS P (Instr.build t (evP F parts.toList).toArray) D k w
  | .lookup t x ix ok => TakeS P (Instr.lookup t (ev F x) (ev F ix) ok) D k w
  | .convert src dst x => TakeS P (convert src dst (ev F x)) D k w
  | .field t x f => TakeS P (Instr.field t (ev F x) f) D k w
  | .makeInterface t x => TakeS P (Instr.makeInterface t (ev F x)) D k w
  | .typeAssert x t u ok => TakeS P (Instr.typeAssert (ev F x) t u ok) D k w
  | .call c => match c.callee with
    | .builtin b => match b with
      | .len => match c.args.toList, c.argTypes.toList with
        | [x], [t] => lenS T t (ev F x) (TakeS P (Builtin.len_ c.argTypes o.type (evL F c.args.toList).toArray) D k w) (fun v _ => k v) w
        | _, _ => False
      | .max => TakeS P (Builtin.max_ c.argTypes o.type (evL F c.args.toList).toArray) D k w
      | .min => TakeS P (Builtin.min_ c.argTypes o.type (evL F c.args.toList).toArray) D k w
      | .cap => TakeS P (Builtin.cap_ c.argTypes o.type (evL F c.args.toList).toArray) D k w
      | _ => False
    | _ => False
  | _ => False

section
variable {P : Program} {T : Tab} {n : Nat}

theorem takeV {D : Nat → Prop} {k : Value → Prop} {w : World} {s : Sem Value} (h : TakeS P s D k w) :
    ∃ v, (∀ w', Fr D w w' → (do let x ← s; pure (Next.value x) : Sem Next).run P w' = .ok (.value v) w') ∧ k v := by
  rw [TakeS_iff] at h
  obtain ⟨v, h1, h2⟩ := h
  exact ⟨v, fun w' hw' => by rw [run_v, h1 w' hw']; rfl, h2⟩

theorem takeS_run (hT : T.ok P = true) {D : Nat → Prop} {o : Oper} {F : Nat → Value} {k : Value → Prop} {w : World} (h : takeS P T D o F k w) :
    ∃ v, (∀ w', Fr D w w' → (execOp (ev F) o).run P w' = .ok (.value v) w') ∧ k v := by
  unfold takeS at h
  unfold execOp
  split at h <;> rename_i ho <;> simp only [ho]
  · exact ⟨_, fun w' _ => rfl, h⟩
  · exact ⟨_, fun w' _ => rfl, h⟩
  · unfold pickS at h
    split at h
    · rename_i c hc
      simp only [hc, asBool]
      cases c <;> exact ⟨_, fun w' _ => by simp, h⟩
    · exact h.elim
  · split at h
    · rename_i op t x y _ _ _ kx m ky n hx hy
      cases hk : kindEq kx ky with
      | false => simp only [hk, cond_false] at h
      | true =>
        simp only [hk, cond_true] at h
        obtain rfl := kindEq_eq hk
        have key : ∀ v, (∀ w', (binOp op t (.int kx m) (.int kx n)).run P w' = .ok v w') → k v → ∃ v, (∀ w', Fr D w w' → (do let v ← (do eqGuard op t x y (ev F x) (ev F y); binOp op t (ev F x) (ev F y) : Sem Value); pure (Next.value v) : Sem Next).run P w' = .ok (.value v) w') ∧ k v := by
          intro v hv hkv
          refine ⟨v, fun w' _ => ?_, hkv⟩
          rw [hx, hy, run_v, Sem.run_bind, eqGuard_int]
          simp only [Result.andThen_ok, hv]
        cases op <;> simp only [cmpS, ArS_iff, DivS_iff, RemS_iff] at h <;> first
          | exact h.elim
          | (refine key _ (fun w' => ?_) h; simp [binOp, Op.intArith]; done)
          | (obtain ⟨h0, h1⟩ := h; refine key _ (fun w' => ?_) h1; simp [binOp, Op.intDiv, h0]; done)
          | (rcases Classical.em _ with hp | hp
             · refine key (.bool true) (fun w' => ?_) (h.t hp); simp [binOp, Op.intCmp]; first | exact hp | omega
             · refine key (.bool false) (fun w' => ?_) (h.f hp); simp [binOp, Op.intCmp]; first | exact hp | omega)
    · exact takeV h
  · split at h
    · rename_i b hb
      exact ⟨_, fun w' _ => by simp [hb, Op.unary], h⟩
    · exact takeV h
  · unfold fieldS at h
    split at h
    · rename_i b o hb
      split at h
      · rename_i d hd
        exact ⟨_, fun w' _ => by rw [run_v, hb, run_field hT hd]; rfl, h⟩
      · exact takeV (by rw [hb] at h; rw [hb]; exact h)
    · exact takeV h
  · unfold nilS at h
    split at h
    · rename_i a ha
      simp only [ha]
      exact ⟨_, fun w' _ => rfl, h⟩
    · exact h.elim
  · rename_i t i
    unfold extS at h
    split at h
    · rename_i vs hv
      rw [nth_eq] at h
      split at h
      · rename_i v hvv
        have : vs[i]? = some v := by simpa using hvv
        exact ⟨v, fun w' _ => by simp only [hv, Instr.extract, this]; rfl, h⟩
      · exact h.elim
    · exact h.elim
  · rw [evL_arr, evL_arr] at h
    exact ⟨_, fun w' _ => by simp [Instr.makeFunc], h⟩
  all_goals first | exact takeV h | (rw [evP_arr] at h; exact takeV h) | skip
  · rename_i c
    have bi : ∀ b s, c.callee = .builtin b → (∀ consts, builtin b c.argTypes o.type consts (c.args.map (ev F)) = (do let x ← s; pure (Next.value x))) →
        (∃ v, (∀ w', Fr D w w' → (do let x ← s; pure (Next.value x) : Sem Next).run P w' = .ok (.value v) w') ∧ k v) →
        ∃ v, (∀ w', Fr D w w' → (do let d ← resolve (ev F) c o.type; invoke d.target d.args : Sem Next).run P w' = .ok (.value v) w') ∧ k v := by
      intro b s hc hb h
      have : (do let d ← resolve (ev F) c o.type; invoke d.target d.args : Sem Next) = (do let x ← s; pure (Next.value x)) := by
        simp only [resolve, hc, pure_bind, invoke]
        exact hb _
      rw [this]; exact h
    split at h
    · rename_i b hb
      split at h
      · split at h
        · rename_i x t hx ht
          have hx' : c.args = #[x] := by rw [← Array.toArray_toList (xs := c.args), hx]
          have ht' : c.argTypes = #[t] := by rw [← Array.toArray_toList (xs := c.argTypes), ht]
          unfold lenS at h
          split at h
          · rename_i a n cc hv
            split at h
            · rename_i h1
              obtain ⟨e, he⟩ := Tab.slice hT h1
              refine bi _ (Builtin.len_ c.argTypes o.type (c.args.map (ev F))) hb (fun _ => rfl) ⟨_, fun w' _ => ?_, h⟩
              rw [run_v, hx', ht']; simp only [List.map_toArray, List.map_cons, List.map_nil, hv, run_len_slice he]
              rfl
            · exact h.elim
          · rename_i s hv
            split at h
            · rename_i h1
              have he := Tab.string hT h1
              refine bi _ (Builtin.len_ c.argTypes o.type (c.args.map (ev F))) hb (fun _ => rfl) ⟨_, fun w' _ => ?_, h⟩
              rw [run_v, hx', ht']; simp only [List.map_toArray, List.map_cons, List.map_nil, hv, run_len_string he]
              rfl
            · exact h.elim
          · rw [evL_arr] at h; exact bi _ _ hb (fun _ => rfl) (takeV h)
        · exact h.elim
      all_goals first
        | exact h.elim
        | (rw [evL_arr] at h; exact bi _ _ hb (fun _ => rfl) (takeV h))
    · exact h.elim
  all_goals exact h.elim

/-- one operation of a region that draws, and what comes behind it (ih) -/
def drawStep (P : Program) (T : Tab) (n : Nat) (D : Nat → Prop) (all : List Oper) (i : Nat) (ih : (Nat → Value) → ((Nat → Value) → World → Prop) → (List PanicEntry → World → Prop) → World → Prop)
    (F : Nat → Value) (k : (Nat → Value) → World → Prop) (pn : List PanicEntry → World → Prop) (w : World) : Prop :=
  match nth all i with
    | none => False
    | some o => match o.guard with
      | none => bif takeK o then takeS P T D o F (fun v => putS n F o.dst v fun F' => ih F' k pn w) w
          else opS P T o F (fun v w' => Fr D w w' ∧ putS n F o.dst v fun F' => ih F' k pn w') pn w
      | some (j, want) => match nth all j with
        | some g => match g.dst with
          | some d => match F d with
            | .bool b => match Nat.blt d n with
              | true => match want with
                | true => condS b
                    (bif takeK o then takeS P T D o (upd F d (.bool true)) (fun v => putS n (upd F d (.bool true)) o.dst v fun F' => ih F' k pn w) w
                      else opS P T o (upd F d (.bool true)) (fun v w' => Fr D w w' ∧ putS n (upd F d (.bool true)) o.dst v fun F' => ih F' k pn w') pn w)
                    (putS n (upd F d (.bool false)) o.dst undef fun F' => ih F' k pn w)
                | false => condS b
                    (putS n (upd F d (.bool true)) o.dst undef fun F' => ih F' k pn w)
                    (bif takeK o then takeS P T D o (upd F d (.bool false)) (fun v => putS n (upd F d (.bool false)) o.dst v fun F' => ih F' k pn w) w
                      else opS P T o (upd F d (.bool false)) (fun v w' => Fr D w w' ∧ putS n (upd F d (.bool false)) o.dst v fun F' => ih F' k pn w') pn w)
              | false => False
            | .tuple _ => putS n F o.dst undef fun F' => ih F' k pn w
            | _ => False
          | none => False
        | none => False
/-- the operations of a region that draws, in an order that serves every order -/
def drawS (P : Program) (T : Tab) (n : Nat) (D : Nat → Prop) (all : List Oper) (σ : List Nat) : (Nat → Value) → ((Nat → Value) → World → Prop) → (List PanicEntry → World → Prop) → World → Prop :=
  List.rec (motive := fun _ => (Nat → Value) → ((Nat → Value) → World → Prop) → (List PanicEntry → World → Prop) → World → Prop) (fun F k _ w => k F w) (fun i _ ih => drawStep P T n D all i ih) σ
theorem drawS_nil (P : Program) (T : Tab) (n : Nat) (D : Nat → Prop) (all : List Oper) (F : Nat → Value) (k : (Nat → Value) → World → Prop) (pn : List PanicEntry → World → Prop) (w : World) : drawS P T n D all [] F k pn w = k F w := rfl
theorem drawS_cons (P : Program) (T : Tab) (n : Nat) (D : Nat → Prop) (all : List Oper) (i : Nat) (r : List Nat) (F : Nat → Value) (k : (Nat → Value) → World → Prop) (pn : List PanicEntry → World → Prop) (w : World) :
    drawS P T n D all (i :: r) F k pn w = drawStep P T n D all i (drawS P T n D all r) F k pn w := rfl

def noDefs (ops : Array Oper) : Bool := ops.all fun o => !isDef o.op
/-- is this an order that serves every order -/
def ordB (ops : Array Oper) : List Nat → Array Bool → Bool
  | [], listed => (Region.ready .any ops listed).isEmpty
  | i :: r, listed => match ops[i]? with
    | none => false
    | some o => (bif takeK o then Region.free .any ops listed i && (Region.ready .any ops listed).contains i else Region.ready .any ops listed == [i]) && ordB ops r (listed.setIfInBounds i true)
def ordOK (ops : Array Oper) (σ : List Nat) : Bool := Region.noSelect ops && noDefs ops && (σ.length == ops.size) && ordB ops σ (Array.replicate ops.size false)

/-! the moves of a walk through a region that draws, in a frame of whatever kind -/
section
variable {ops : Array Oper} {Q : Exit → Act → World → Prop} {md : Region.Mode} {S : World → Prop} {r : Option Nat}
theorem noDefs_spec {ops : Array Oper} (h : noDefs ops = true) {j : Nat} {o : Oper} (hj : ops[j]? = some o) : ∀ c, o.op ≠ .defer c := by
  intro c hc
  have := (Array.all_eq_true'.1 h) o (Array.mem_of_getElem? hj)
  rw [hc] at this; cases this
theorem yieldsIf_wpOp {i : Nat} {o : Oper} {v : Value} {a : Act} (hnd : noDefs ops = true) (hi : ops[i]? = some o) (hy : YieldsIf P ops S o v a)
    {K : Act → World → Prop} {w : World} (hS : S w) (h : K (a.put o.dst v) w) : wpOpIn (fw r) 0 P ops Q i K a w := by
  unfold Go.wpOpIn
  simp only [hi]
  rcases hy with ⟨hw, hv⟩ | ⟨hw, rfl⟩
  · simp only [hw, if_true, Oper.wpIn, Oper.semAt_eq _ _ _ (noDefs_spec hnd hi), hv w hS, Oper.uponIn]; exact ⟨fun _ _ => trivial, h⟩
  · simp only [hw, Bool.false_eq_true, if_false]; exact ⟨fun _ _ => trivial, h⟩
theorem wpOpF_putIf {j : Nat} {oi oj : Oper} {v : Value} (hnd : noDefs ops = true) (hj : ops[j]? = some oj) (hap : oi.apart ops oj = true)
    (hsi : ∀ cs b, oi.op ≠ .select cs b) (hsj : ∀ cs b, oj.op ≠ .select cs b)
    (hQ : ∀ c a w, Q (.panic c) (a.put oi.dst v) w → Q (.panic c) a w) {K : Act → World → Prop} {a : Act} {w : World}
    (hy : YieldsIf P ops S oi v a) (h : wpOpIn (fw r) 0 P ops Q j K (a.put oi.dst v) w) :
    wpOpIn (fw r) 0 P ops Q j (fun a' w' => YieldsIf P ops S oi v a' ∧ K (a'.put oi.dst v) w') a w := by
  obtain ⟨h1, h2, h3⟩ := Oper.apart_spec hap
  have keep : ∀ (a : Act), YieldsIf P ops S oi v a → ∀ u, YieldsIf P ops S oi v (a.put oj.dst u) := fun a hy u =>
    hy.of_same (execOp_put oi hsi a oj.dst u h3) (wanted_put oi a oj.dst u h3)
  have hnj := noDefs_spec hnd hj
  unfold wpOpIn at *
  simp only [hj] at *
  rw [wanted_put oj a oi.dst v h1] at h
  split
  · rename_i hw
    simp only [hw, if_true] at h
    unfold Oper.wpIn at *
    refine ⟨fun _ _ => trivial, ?_⟩
    have h := h.2
    rw [Oper.semAt_eq _ _ _ hnj, execOp_put oj hsj a oi.dst v h1] at h
    rw [Oper.semAt_eq _ _ _ hnj]
    generalize (execOp a.eval oj).run P w = res at h ⊢
    cases res with
    | ok x w' =>
      cases x <;> simp only [Oper.uponIn] at h ⊢
      case value u => exact ⟨keep a hy u, by rw [← Act.put_comm a v u h2]; exact h⟩
      case skip => exact ⟨keep a hy _, by rw [← Act.put_comm a v undef h2]; exact h⟩
      case defer d =>
        have keepD : YieldsIf P ops S oi v { a with defers := d :: a.defers } := hy.of_same rfl rfl
        refine ⟨keep _ keepD _, ?_⟩
        rw [← Act.put_comm _ v undef h2, ← Act.put_defers]
        exact h
      case enter f args =>
        refine ⟨h.1, CallsIn.mono h.2 fun e w'' he => ?_⟩
        cases e with
        | returned u => exact ⟨keep a hy u, by rw [← Act.put_comm a v u h2]; exact he⟩
        | panicked c => exact hQ _ _ _ he
        | outgrown => exact he
      case row row args => exact ⟨h.1, RowsIn.mono h.2 fun u w'' he => ⟨keep a hy u, by rw [← Act.put_comm a v u h2]; exact he⟩⟩
      case round l f tmps assign body =>
        refine ⟨h.1, RoundIn.mono h.2 fun e w'' he => ?_⟩
        cases e with
        | returned u => exact ⟨keep a hy u, by rw [← Act.put_comm a v u h2]; exact he⟩
        | panicked c => exact hQ _ _ _ he
        | outgrown => exact he
    | halt x w' =>
      cases x <;> simp only [Oper.uponIn] at h ⊢
      case panic u => exact hQ _ _ _ h
  · rename_i hw
    simp only [hw] at h
    exact ⟨fun _ _ => trivial, keep a hy _, by rw [← Act.put_comm a v undef h2]; exact h.2⟩

def AnyH (P : Program) (r : Option Nat) (md : Region.Mode) (ops : Array Oper) (Q : Exit → Act → World → Prop) (S : World → Prop) : Nat → Array Bool → Act → World → Prop
  | 0, listed, a, w => Region.ready md ops listed = [] ∧ Q .normal a w
  | fuel + 1, listed, a, w =>
    (Region.ready md ops listed = [] → Q .normal a w) ∧
    ∀ i ∈ Region.ready md ops listed, wpOpIn (fw r) 0 P ops Q i (fun a' w' => S w' ∧ AnyH P r md ops Q S fuel (listed.setIfInBounds i true) a' w') a w
theorem anyIn_of_held : ∀ (fuel : Nat) (listed : Array Bool) (a : Act) (w : World), AnyH P r md ops Q S fuel listed a w → wpAnyIn (fw r) 0 P md ops Q fuel listed a w
  | 0, _, _, _, h => h
  | fuel + 1, _, _, _, h => ⟨h.1, fun i hi => wpOpIn_mono (fun a' w' h' => anyIn_of_held fuel _ a' w' h'.2) (h.2 i hi)⟩
theorem anyH_first {i : Nat} {oi : Oper} {v : Value} (hnd : noDefs ops = true) (hi : ops[i]? = some oi) (hsel : ∀ (j : Nat) (o : Oper) cs b, ops[j]? = some o → o.op ≠ .select cs b)
    (hQ : ∀ c a w, Q (.panic c) (a.put oi.dst v) w → Q (.panic c) a w) :
    ∀ (fuel : Nat) (listed : Array Bool) (a : Act) (w : World),
      (∀ j oj, ops[j]? = some oj → j ≠ i → listed.getD j true = false → (∀ e ∈ oj.after, Region.binds md e = true → e.on ≠ i) → oi.apart ops oj = true) →
      i ∈ Region.ready md ops listed → YieldsIf P ops S oi v a → S w →
      AnyH P r md ops Q S fuel (listed.setIfInBounds i true) (a.put oi.dst v) w → AnyH P r md ops Q S (fuel + 1) listed a w := by
  intro fuel
  induction fuel with
  | zero =>
    intro listed a w _ hr hy hS H
    refine ⟨fun h => (by rw [h] at hr; cases hr), fun j hj => ?_⟩
    by_cases hji : j = i
    · subst hji; exact yieldsIf_wpOp hnd hi hy hS ⟨hS, H⟩
    · have := ready_mono hj hji
      rw [H.1] at this
      cases this
  | succ fuel ih =>
    intro listed a w hfree hr hy hS H
    refine ⟨fun h => (by rw [h] at hr; cases hr), fun j hj => ?_⟩
    by_cases hji : j = i
    · subst hji; exact yieldsIf_wpOp hnd hi hy hS ⟨hS, H⟩
    · have h1 := H.2 j (ready_mono hj hji)
      obtain ⟨hjun, oj, hoj, hall⟩ := mem_ready.1 hj
      have hnot : ∀ e ∈ oj.after, Region.binds md e = true → e.on ≠ i := fun e he hb heq => by
        have h1 := hall e he hb
        have h0 := (mem_ready.1 hr).1
        rw [heq] at h1
        rcases Nat.lt_or_ge i listed.size with h' | h'
        · simp [h'] at h0 h1; rw [h0] at h1; cases h1
        · simp [Array.getElem?_eq_none h'] at h1
      have h2 := wpOpF_putIf hnd hoj (hfree j oj hoj hji hjun hnot) (fun cs b => hsel i oi cs b hi) (fun cs b => hsel j oj cs b hoj) hQ hy h1
      have hfree' : ∀ k ok, ops[k]? = some ok → k ≠ i → (listed.setIfInBounds j true).getD k true = false →
          (∀ e ∈ ok.after, Region.binds md e = true → e.on ≠ i) → oi.apart ops ok = true := fun k ok hk hki hun hno => by
        refine hfree k ok hk hki ?_ hno
        by_cases hjk : j = k
        · subst hjk; exact hjun
        · rw [getD_set_ne true hjk] at hun; exact hun
      refine wpOpIn_mono (fun a' w' h3 => ⟨h3.2.1, ih (listed.setIfInBounds j true) a' w' hfree' (ready_mono hr (Ne.symm hji)) h3.1 h3.2.1 ?_⟩) h2
      rw [Array.setIfInBounds_comm _ _ hji]
      exact h3.2.2
theorem anyH_take {i : Nat} {oi : Oper} {v : Value} {fuel : Nat} {listed : Array Bool} {a : Act} {w : World} (hnd : noDefs ops = true) (hi : ops[i]? = some oi)
    (hs : Region.noSelect ops = true) (hf : Region.free md ops listed i = true) (hr : (Region.ready md ops listed).contains i = true)
    (hQ : ∀ c a w, Q (.panic c) (a.put oi.dst v) w → Q (.panic c) a w) (hy : YieldsIf P ops S oi v a) (hS : S w)
    (h : AnyH P r md ops Q S fuel (listed.setIfInBounds i true) (a.put oi.dst v) w) : AnyH P r md ops Q S (fuel + 1) listed a w :=
  anyH_first hnd hi (Region.noSelect_spec hs) hQ fuel listed a w (Region.free_spec hi hf) (by simpa using hr) hy hS h
theorem anyH_all {rs : List Nat} {fuel : Nat} {listed : Array Bool} {a : Act} {w : World} (hr : Region.ready md ops listed = rs) (hne : rs ≠ [])
    (h : ∀ i ∈ rs, wpOpIn (fw r) 0 P ops Q i (fun a' w' => S w' ∧ AnyH P r md ops Q S fuel (listed.setIfInBounds i true) a' w') a w) : AnyH P r md ops Q S (fuel + 1) listed a w :=
  ⟨fun h0 => absurd (hr ▸ h0) hne, hr ▸ h⟩
end

theorem anyH_weaken {r : Option Nat} {ops : Array Oper} {Q : Exit → Act → World → Prop} {A B : World → Prop} (h : ∀ w, A w → B w) : ∀ (fuel : Nat) (listed : Array Bool) (a : Act) (w : World),
    AnyH P r .any ops Q A fuel listed a w → AnyH P r .any ops Q B fuel listed a w
  | 0, _, _, _, hh => hh
  | fuel + 1, _, _, _, hh => ⟨hh.1, fun i hi => wpOpIn_mono (fun a' w' h' => ⟨h _ h'.1, anyH_weaken h fuel _ a' w' h'.2⟩) (hh.2 i hi)⟩

theorem drawS_any (hT : T.ok P = true) {r : Option Nat} (D : Nat → Prop) (ops : Array Oper) (F0 : Nat → Value) (ws : Nat → Bool) (hws : ∀ t, wrL ops.toList t = true → ws t = true) (k : (Nat → Value) → World → Prop) (pn : List PanicEntry → World → Prop) (hs : Region.noSelect ops = true) (hnd : noDefs ops = true) :
    ∀ (σ : List Nat) (listed : Array Bool) (F : Nat → Value) (w : World) (a : Act), Rel n F a → agree ws F0 F → ordB ops σ listed = true → drawS P T n D ops.toList σ F k pn w →
      AnyH P r .any ops (LQ n F0 ws k (fun _ => pn)) (Fr D w) σ.length listed a w := by
  intro σ
  induction σ with
  | nil =>
    intro listed F w a ha h0 ho h
    exact ⟨by simpa [ordB] using ho, F, ha, h0, h⟩
  | cons i rest ih =>
    intro listed F w a ha h0 ho h
    simp only [ordB] at ho
    rw [drawS_cons] at h
    unfold drawStep at h
    rw [nth_eq] at h
    split at h
    · exact h.elim
    rename_i o hoi
    have hi : ops[i]? = some o := by simpa using hoi
    simp only [hi, Bool.and_eq_true] at ho
    have hwo : ∀ t, isD o.dst t = true → ws t = true := by
      intro t ht
      refine hws t ?_
      have hm : o ∈ ops.toList := List.mem_of_getElem? hoi
      clear hoi hi h ho
      generalize ops.toList = l at hm
      induction l with
      | nil => cases hm
      | cons x r ihl =>
        simp only [wrL, Bool.or_eq_true]
        rcases List.mem_cons.1 hm with rfl | hm
        · exact .inl (by unfold wrO; rw [ht]; rfl)
        · exact .inr (ihl hm)
    have step : ∀ {G : Nat → Value} {v : Value} {w' : World}, Rel n G a → agree ws F0 G → putS n G o.dst v (fun F' => drawS P T n D ops.toList rest F' k pn w') →
        AnyH P r .any ops (LQ n F0 ws k (fun _ => pn)) (Fr D w') rest.length (listed.setIfInBounds i true) (a.put o.dst v) w' := by
      intro G v w' hG h0G hp
      obtain ⟨F', h1, h2, h3⟩ := hG.put hp
      exact ih _ F' w' _ h1 (fun t ht => by
        rw [h2 t (by cases hd : isD o.dst t; rfl; have := hwo t hd; rw [ht] at this; cases this), h0G t ht]) ho.2 h3
    have hpan : ∀ c (a : Act) (w : World) (v : Value), LQ n F0 ws k (fun _ => pn) (.panic c) (a.put o.dst v) w → LQ n F0 ws k (fun _ => pn) (.panic c) a w := by
      intro c a w v hq
      simp only [LQ] at hq ⊢
      obtain ⟨F', h1, h2, h3⟩ := hq
      have hsz : (a.put o.dst v).tmps.size = a.tmps.size := by cases hd : o.dst <;> simp [Act.put]
      have hdf : (a.put o.dst v).defers = a.defers := by cases hd : o.dst <;> simp [Act.put]
      refine ⟨fun t => bif Nat.beq t 4294967296 then F' 4294967296 else a.tmps.getD t undef, ⟨by rw [← hsz]; exact h1.size, h1.le, by rw [← hdf]; exact h1.defers, fun t ht => ?_⟩, fun t ht => ?_, h3⟩
      · cases hq : Nat.beq t 4294967296 with
        | false => simp only [hq, cond_false]
        | true => exact absurd (Nat.eq_of_beq_eq_true hq) ht
      · cases hq : Nat.beq t 4294967296 with
        | true => simp only [hq, cond_true]; rw [← Nat.eq_of_beq_eq_true hq]; exact h2 t ht
        | false =>
          simp only [hq, cond_false]
          rw [← h2 t ht, ← h1.get t (fun e => by subst e; simp at hq)]
          cases hd : o.dst with
          | none => rfl
          | some d =>
            have hne : d ≠ t := by
              rintro rfl
              have := hwo d (by simp [isD, hd])
              rw [ht] at this; cases this
            simp [Act.put, Array.getD_eq_getD_getElem?, Array.getElem?_setIfInBounds, hne]
    -- the operation is wanted, with the frame G
    have wanted : ∀ {G : Nat → Value}, Rel n G a → agree ws F0 G → Region.wanted o (yielded ops a.tmps) = true →
        (bif takeK o then takeS P T D o G (fun v => putS n G o.dst v fun F' => drawS P T n D ops.toList rest F' k pn w) w
          else opS P T o G (fun v w' => Fr D w w' ∧ putS n G o.dst v fun F' => drawS P T n D ops.toList rest F' k pn w') pn w) →
        AnyH P r .any ops (LQ n F0 ws k (fun _ => pn)) (Fr D w) (i :: rest).length listed a w := by
      intro G hG h0G hw hh
      cases hk : takeK o with
      | true =>
        simp only [hk, cond_true] at hh ho
        rw [Bool.and_eq_true] at ho
        obtain ⟨v, h1, h2⟩ := takeS_run hT hh
        refine anyH_take hnd (i := i) (oi := o) (v := v) hi hs ho.1.1 ho.1.2 (fun c a w => hpan c a w v) (.inl ⟨hw, fun w' hw' => ?_⟩) (Fr.refl D w) (step hG h0G h2)
        rw [hG.eval]; exact h1 w' hw'
      | false =>
        simp only [hk, cond_false] at hh ho
        have hr : Region.ready .any ops listed = [i] := by simpa using ho.1
        refine anyH_all hr (by simp) (fun j hj => ?_)
        obtain rfl : j = i := by simpa using hj
        unfold wpOpIn
        simp only [hi, hw, if_true]
        refine opS_wp hT hh hG (fun v w' hv => ?_) (fun c w' hc => ⟨G, hG, h0G, hc⟩)
        exact ⟨hv.1, anyH_weaken (fun u hu => hv.1.trans hu) _ _ _ _ (step hG h0G hv.2)⟩
    have skip : ∀ {G : Nat → Value}, Rel n G a → agree ws F0 G → Region.wanted o (yielded ops a.tmps) = false → putS n G o.dst undef (fun F' => drawS P T n D ops.toList rest F' k pn w) →
        AnyH P r .any ops (LQ n F0 ws k (fun _ => pn)) (Fr D w) (i :: rest).length listed a w := by
      intro G hG h0G hw hh
      cases hk : takeK o with
      | true =>
        simp only [hk, cond_true] at ho
        rw [Bool.and_eq_true] at ho
        exact anyH_take hnd (i := i) (oi := o) (v := undef) hi hs ho.1.1 ho.1.2 (fun c a w => hpan c a w undef) (.inr ⟨hw, rfl⟩) (Fr.refl D w) (step hG h0G hh)
      | false =>
        simp only [hk, cond_false] at ho
        have hr : Region.ready .any ops listed = [i] := by simpa using ho.1
        refine anyH_all hr (by simp) (fun j hj => ?_)
        obtain rfl : j = i := by simpa using hj
        unfold wpOpIn
        simp only [hi, hw]
        exact ⟨fun _ _ => trivial, Fr.refl D w, step hG h0G hh⟩
    split at h
    · rename_i hg
      exact wanted ha h0 (by simp [Region.wanted, hg]) h
    rename_i j want hg
    rw [nth_eq] at h
    split at h
    case h_2 => exact h.elim
    case h_1 g hgj =>
    split at h
    case h_2 => exact h.elim
    case h_1 d hd =>
    have hy : d < n → yielded ops a.tmps j = match F d with | .bool b => some b | _ => none := by
      intro hdn
      have hgj' : ops[j]? = some g := by simpa using hgj
      have := ha.get d (Nat.ne_of_lt (Nat.lt_of_lt_of_le hdn ha.le))
      have hs := ha.size
      simp only [yielded, hgj', Option.bind_some, hd]
      have e : a.tmps[d]? = some (F d) := by
        rw [← this, Array.getD_eq_getD_getElem?]
        rw [Array.getElem?_eq_getElem (by rw [hs]; exact hdn)]; rfl
      rw [e]
      cases F d <;> simp
    split at h
    · rename_i b hb
      have hF : upd F d (.bool b) = F := by rw [← hb]; exact upd_self F d
      split at h
      case h_2 => exact h.elim
      case h_1 hdn =>
      have hdn' : d < n := by simpa [Nat.blt_eq] using hdn
      have hy := hy hdn'
      simp only [hb] at hy
      cases want <;> cases b <;> simp only [condS, hF] at h <;> first
        | exact wanted ha h0 (by simp [Region.wanted, hg, hy]) h
        | exact skip ha h0 (by simp [Region.wanted, hg, hy]) h
    · rename_i vs hb
      have hy : yielded ops a.tmps j = none := by
        by_cases hdn : d < n
        · rw [hy hdn]; simp only [hb]
        · have hgj' : ops[j]? = some g := by simpa using hgj
          have e : a.tmps[d]? = none := Array.getElem?_eq_none (by rw [ha.size]; exact Nat.le_of_not_lt hdn)
          simp only [yielded, hgj', Option.bind_some, hd, e]
      exact skip ha h0 (by simp [Region.wanted, hg, hy]) h
    · exact h.elim

def upF : Nat → Nat → List Nat
  | 0, _ => []
  | m + 1, i => i :: upF m (i + 1)

theorem drawR (hT : T.ok P = true) (hm : P.follows .mixedOrders = true) (D : Nat → Prop) (σ : List Nat) {i : Nat} {ops : Array Oper} {Q : KS} {F : Nat → Value} {w : World} (ho : ordOK ops σ = true)
    (h : ∀ w', Stp w w' → w'.heap = w.heap → drawS P T n D ops.toList σ F Q.nrm (fun c w => ∀ F', agree (wr (.region i ops true)) F F' → Q.pan F' c w) w') : DeepS P T n (.region i ops true) Q F w := by
  rw [DeepS_iff]
  intro md hmd a ha
  simp only [ordOK, Bool.and_eq_true] at ho
  have hd := drawS_any hT (r := md) D ops F (wr (.region i ops true)) (fun t ht => ht) Q.nrm (fun c w => ∀ F', agree (wr (.region i ops true)) F F' → Q.pan F' c w) ho.1.1.1 ho.1.1.2 σ (Array.replicate ops.size false) F _ a ha (fun _ _ => rfl) ho.2 (h _ ⟨Ext.drew w⟩ rfl)
  have e : σ.length = ops.size := by simpa using ho.1.2
  rw [e] at hd
  refine Code.wpIn_mono ?_ (wpIn_region_any hm (anyIn_of_held _ _ _ _ hd))
  intro e a' w' hq
  cases e <;> simp only [LQ] at hq <;> simp only [KS.lift]
  · exact hq
  · obtain ⟨F', h1, h2, h3⟩ := hq; exact ⟨F', h1, h2, h3 F' h2⟩
end
end Go.W
