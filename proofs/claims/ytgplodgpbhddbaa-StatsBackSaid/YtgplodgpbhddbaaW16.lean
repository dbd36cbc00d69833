/-
  Proved here: regions that draw their order, with two operations that both may come next.
  Conditions: those that each fact names.
-/
import Derived.Test.YtgplodgpbhddbaaW15
set_option linter.unusedSimpArgs false
namespace Go.W
open Go

/-- an order that serves every order, or two where two operations may come next -/
inductive OT where
  | nil : OT
  | one : Nat → OT → OT
  | two : Nat → OT → Nat → OT → OT
  | lone : Nat → OT → OT
  | duo : Nat → OT → Nat → OT → OT
def OT.of : List Nat → OT → OT
  | [], t => t
  | i :: r, t => .one i (OT.of r t)
def OT.deep : OT → Nat → Bool
  | .nil, m => Nat.beq m 0
  | .one _ t, m => match m with | 0 => false | m + 1 => t.deep m
  | .lone _ t, m => match m with | 0 => false | m + 1 => t.deep m
  | .two _ t _ t', m => match m with | 0 => false | m + 1 => t.deep m && t'.deep m
  | .duo _ t _ t', m => match m with | 0 => false | m + 1 => t.deep m && t'.deep m
/-- one operation, taken (tk) or carried out -/
def drawStepG (tk : Oper → Bool) (P : Program) (T : Tab) (n : Nat) (D : Nat → Prop) (all : List Oper) (i : Nat) (ih : (Nat → Value) → ((Nat → Value) → World → Prop) → (List PanicEntry → World → Prop) → World → Prop)
    (F : Nat → Value) (k : (Nat → Value) → World → Prop) (pn : List PanicEntry → World → Prop) (w : World) : Prop :=
  match nth all i with
    | none => False
    | some o => match o.guard with
      | none => bif tk o then takeS P T D o F (fun v => putS n F o.dst v fun F' => ih F' k pn w) w
          else opS P T o F (fun v w' => Fr D w w' ∧ putS n F o.dst v fun F' => ih F' k pn w') pn w
      | some (j, want) => match nth all j with
        | some g => match g.dst with
          | some d => match F d with
            | .bool b => match Nat.blt d n with
              | true => match want with
                | true => condS b
                    (bif tk o then takeS P T D o (upd F d (.bool true)) (fun v => putS n (upd F d (.bool true)) o.dst v fun F' => ih F' k pn w) w
                      else opS P T o (upd F d (.bool true)) (fun v w' => Fr D w w' ∧ putS n (upd F d (.bool true)) o.dst v fun F' => ih F' k pn w') pn w)
                    (putS n (upd F d (.bool false)) o.dst undef fun F' => ih F' k pn w)
                | false => condS b
                    (putS n (upd F d (.bool true)) o.dst undef fun F' => ih F' k pn w)
                    (bif tk o then takeS P T D o (upd F d (.bool false)) (fun v => putS n (upd F d (.bool false)) o.dst v fun F' => ih F' k pn w) w
                      else opS P T o (upd F d (.bool false)) (fun v w' => Fr D w w' ∧ putS n (upd F d (.bool false)) o.dst v fun F' => ih F' k pn w') pn w)
              | false => False
            | .tuple _ => putS n F o.dst undef fun F' => ih F' k pn w
            | _ => False
          | none => False
        | none => False
theorem drawStep_G : drawStep = drawStepG takeK := rfl
def drawT (P : Program) (T : Tab) (n : Nat) (D : Nat → Prop) (all : List Oper) (t : OT) : (Nat → Value) → ((Nat → Value) → World → Prop) → (List PanicEntry → World → Prop) → World → Prop :=
  OT.rec (motive := fun _ => (Nat → Value) → ((Nat → Value) → World → Prop) → (List PanicEntry → World → Prop) → World → Prop) (fun F k _ w => k F w) (fun i _ ih => drawStep P T n D all i ih)
    (fun i _ j _ ih jh F k pn w => drawStep P T n D all i ih F k pn w ∧ drawStep P T n D all j jh F k pn w) (fun i _ ih => drawStepG (fun _ => false) P T n D all i ih)
    (fun i _ j _ ih jh F k pn w => drawStepG (fun _ => false) P T n D all i ih F k pn w ∧ drawStepG (fun _ => false) P T n D all j jh F k pn w) t
def plainB (ops : Array Oper) (i : Nat) : Bool := match ops[i]? with | none => false | some o => !takeK o
def ordT (ops : Array Oper) : OT → Array Bool → Bool
  | .nil, listed => (Region.ready .any ops listed).isEmpty
  | .one i t, listed => match ops[i]? with
    | none => false
    | some o => (bif takeK o then Region.free .any ops listed i && (Region.ready .any ops listed).contains i else Region.ready .any ops listed == [i]) && ordT ops t (listed.setIfInBounds i true)
  | .lone i t, listed => (Region.ready .any ops listed == [i]) && ordT ops t (listed.setIfInBounds i true)
  | .duo i t j t', listed => (Region.ready .any ops listed == [i, j]) && ordT ops t (listed.setIfInBounds i true) && ordT ops t' (listed.setIfInBounds j true)
  | .two i t j t', listed => (Region.ready .any ops listed == [i, j]) && plainB ops i && plainB ops j && !Nat.beq i j && ordT ops t (listed.setIfInBounds i true) && ordT ops t' (listed.setIfInBounds j true)
def ordTOK (ops : Array Oper) (t : OT) : Bool := Region.noSelect ops && noDefs ops && t.deep ops.size && ordT ops t (Array.replicate ops.size false)

section
variable {P : Program} {T : Tab} {n : Nat}
theorem step_cases {tk : Oper → Bool} {D : Nat → Prop} {ops : Array Oper} {i : Nat} {ih : (Nat → Value) → ((Nat → Value) → World → Prop) → (List PanicEntry → World → Prop) → World → Prop} {F : Nat → Value} {k : (Nat → Value) → World → Prop} {pn : List PanicEntry → World → Prop} {w : World} {a : Act} (ha : Rel n F a)
    (h : drawStepG tk P T n D ops.toList i ih F k pn w) : ∃ o, ops[i]? = some o ∧
      ((Region.wanted o (yielded ops a.tmps) = true ∧ (bif tk o then takeS P T D o F (fun v => putS n F o.dst v fun F' => ih F' k pn w) w else opS P T o F (fun v w' => Fr D w w' ∧ putS n F o.dst v fun F' => ih F' k pn w') pn w)) ∨
       (Region.wanted o (yielded ops a.tmps) = false ∧ putS n F o.dst undef fun F' => ih F' k pn w)) := by
  unfold drawStepG at h
  rw [nth_eq] at h
  split at h
  · exact h.elim
  rename_i o hoi
  have hi : ops[i]? = some o := by simpa using hoi
  refine ⟨o, hi, ?_⟩
  split at h
  · rename_i hg
    exact .inl ⟨by simp [Region.wanted, hg], h⟩
  rename_i j want hg
  rw [nth_eq] at h
  split at h
  case h_2 => exact h.elim
  case h_1 g hgj =>
  split at h
  case h_2 => exact h.elim
  case h_1 d hd =>
  have hy : d < n → yielded ops a.tmps j = match F d with | .bool b => some b | _ => none := by
    intro hdn
    have hgj' : ops[j]? = some g := by simpa using hgj
    have := ha.get d (Nat.ne_of_lt (Nat.lt_of_lt_of_le hdn ha.le))
    have hs := ha.size
    simp only [yielded, hgj', Option.bind_some, hd]
    have e : a.tmps[d]? = some (F d) := by
      rw [← this, Array.getD_eq_getD_getElem?]
      rw [Array.getElem?_eq_getElem (by rw [hs]; exact hdn)]; rfl
    rw [e]
    cases F d <;> simp
  split at h
  · rename_i b hb
    have hF : upd F d (.bool b) = F := by rw [← hb]; exact upd_self F d
    split at h
    case h_2 => exact h.elim
    case h_1 hdn =>
    have hdn' : d < n := by simpa [Nat.blt_eq] using hdn
    have hy := hy hdn'
    simp only [hb] at hy
    cases want <;> cases b <;> simp only [condS, hF] at h <;> first
      | exact .inl ⟨by simp [Region.wanted, hg, hy], h⟩
      | exact .inr ⟨by simp [Region.wanted, hg, hy], h⟩
  · rename_i vs hb
    have hy : yielded ops a.tmps j = none := by
      by_cases hdn : d < n
      · rw [hy hdn]; simp only [hb]
      · have hgj' : ops[j]? = some g := by simpa using hgj
        have e : a.tmps[d]? = none := Array.getElem?_eq_none (by rw [ha.size]; exact Nat.le_of_not_lt hdn)
        simp only [yielded, hgj', Option.bind_some, hd, e]
    exact .inr ⟨by simp [Region.wanted, hg, hy], h⟩
  · exact h.elim

theorem wrL_mem {ws : Nat → Bool} {ops : Array Oper} (hws : ∀ t, wrL ops.toList t = true → ws t = true) {i : Nat} {o : Oper} (hi : ops[i]? = some o) (t : Nat) (ht : isD o.dst t = true) : ws t = true := by
  refine hws t ?_
  have hm : o ∈ ops.toList := List.mem_of_getElem? (i := i) (by simpa using hi)
  clear hi
  generalize ops.toList = l at hm
  induction l with
  | nil => cases hm
  | cons x r ihl =>
    simp only [wrL, Bool.or_eq_true]
    rcases List.mem_cons.1 hm with rfl | hm
    · exact .inl (by unfold wrO; rw [ht]; rfl)
    · exact .inr (ihl hm)

theorem drawT_any (hT : T.ok P = true) {r : Option Nat} (D : Nat → Prop) (ops : Array Oper) (F0 : Nat → Value) (ws : Nat → Bool) (hws : ∀ t, wrL ops.toList t = true → ws t = true) (k : (Nat → Value) → World → Prop) (pn : List PanicEntry → World → Prop) (hs : Region.noSelect ops = true) (hnd : noDefs ops = true) :
    ∀ (t : OT) (m : Nat) (listed : Array Bool) (F : Nat → Value) (w : World) (a : Act), t.deep m = true → Rel n F a → agree ws F0 F → ordT ops t listed = true → drawT P T n D ops.toList t F k pn w →
      AnyH P r .any ops (LQ n F0 ws k (fun _ => pn)) (Fr D w) m listed a w := by
  -- an operation that may do more than take, and what comes behind it
  have oper : ∀ (tk : Oper → Bool) (i : Nat) (t : OT) (m : Nat) (listed : Array Bool) (F : Nat → Value) (w : World) (a : Act), (∀ o, ops[i]? = some o → tk o = false) → Rel n F a → agree ws F0 F →
      (∀ (F : Nat → Value) (w : World) (a : Act), Rel n F a → agree ws F0 F → drawT P T n D ops.toList t F k pn w → AnyH P r .any ops (LQ n F0 ws k (fun _ => pn)) (Fr D w) m (listed.setIfInBounds i true) a w) →
      drawStepG tk P T n D ops.toList i (drawT P T n D ops.toList t) F k pn w →
      wpOpIn (fw r) 0 P ops (LQ n F0 ws k (fun _ => pn)) i (fun a' w' => Fr D w w' ∧ AnyH P r .any ops (LQ n F0 ws k (fun _ => pn)) (Fr D w) m (listed.setIfInBounds i true) a' w') a w := by
    intro tk i t m listed F w a hp ha h0 ih h
    obtain ⟨o, hi, hh⟩ := step_cases ha h
    have hk : tk o = false := hp o hi
    have step : ∀ {v : Value} {w' : World}, putS n F o.dst v (fun F' => drawT P T n D ops.toList t F' k pn w') →
        AnyH P r .any ops (LQ n F0 ws k (fun _ => pn)) (Fr D w') m (listed.setIfInBounds i true) (a.put o.dst v) w' := by
      intro v w' hp
      obtain ⟨F', h1, h2, h3⟩ := ha.put hp
      exact ih F' w' _ h1 (fun t ht => by
        rw [h2 t (by cases hd : isD o.dst t; rfl; have := wrL_mem hws hi t hd; rw [ht] at this; cases this), h0 t ht]) h3
    unfold wpOpIn
    simp only [hi]
    rcases hh with ⟨hw, hh⟩ | ⟨hw, hh⟩
    · simp only [hk, cond_false] at hh
      simp only [hw, if_true]
      refine opS_wp hT hh ha (fun v w' hv => ?_) (fun c w' hc => ⟨F, ha, h0, hc⟩)
      exact ⟨hv.1, anyH_weaken (fun u hu => hv.1.trans hu) _ _ _ _ (step hv.2)⟩
    · simp only [hw]
      exact ⟨fun _ _ => trivial, Fr.refl D w, step hh⟩
  intro t
  induction t with
  | nil =>
    intro m listed F w a hm ha h0 ho h
    obtain rfl := Nat.eq_of_beq_eq_true hm
    exact ⟨by simpa [ordT] using ho, F, ha, h0, h⟩
  | one i t ih =>
    intro m listed F w a hm ha h0 ho h
    cases m with
    | zero => cases hm
    | succ m =>
    have hm : t.deep m = true := hm
    have h : drawStepG takeK P T n D ops.toList i (drawT P T n D ops.toList t) F k pn w := h
    obtain ⟨o, hi, hh⟩ := step_cases ha h
    simp only [ordT, hi, Bool.and_eq_true] at ho
    cases hk : takeK o with
    | false =>
      simp only [hk, cond_false] at ho
      have hr : Region.ready .any ops listed = [i] := by simpa using ho.1
      refine anyH_all hr (by simp) (fun j hj => ?_)
      obtain rfl : j = i := by simpa using hj
      exact oper takeK j t m listed F w a (fun o' ho' => by rw [hi] at ho'; cases ho'; exact hk) ha h0 (fun F w a ha h0 h => ih m _ F w a hm ha h0 ho.2 h) h
    | true =>
      simp only [hk, cond_true] at ho hh
      rw [Bool.and_eq_true] at ho
      have step : ∀ {v : Value}, putS n F o.dst v (fun F' => drawT P T n D ops.toList t F' k pn w) →
          AnyH P r .any ops (LQ n F0 ws k (fun _ => pn)) (Fr D w) m (listed.setIfInBounds i true) (a.put o.dst v) w := by
        intro v hp
        obtain ⟨F', h1, h2, h3⟩ := ha.put hp
        exact ih m _ F' w _ hm h1 (fun t ht => by
          rw [h2 t (by cases hd : isD o.dst t; rfl; have := wrL_mem hws hi t hd; rw [ht] at this; cases this), h0 t ht]) ho.2 h3
      have hpan : ∀ c (a : Act) (w : World) (v : Value), LQ n F0 ws k (fun _ => pn) (.panic c) (a.put o.dst v) w → LQ n F0 ws k (fun _ => pn) (.panic c) a w := by
        intro c a w v hq
        simp only [LQ] at hq ⊢
        obtain ⟨F', h1, h2, h3⟩ := hq
        have hsz : (a.put o.dst v).tmps.size = a.tmps.size := by cases hd : o.dst <;> simp [Act.put]
        have hdf : (a.put o.dst v).defers = a.defers := by cases hd : o.dst <;> simp [Act.put]
        refine ⟨fun t => bif Nat.beq t 4294967296 then F' 4294967296 else a.tmps.getD t undef, ⟨by rw [← hsz]; exact h1.size, h1.le, by rw [← hdf]; exact h1.defers, fun t ht => ?_⟩, fun t ht => ?_, h3⟩
        · cases hq : Nat.beq t 4294967296 with
          | false => simp only [hq, cond_false]
          | true => exact absurd (Nat.eq_of_beq_eq_true hq) ht
        · cases hq : Nat.beq t 4294967296 with
          | true => simp only [hq, cond_true]; rw [← Nat.eq_of_beq_eq_true hq]; exact h2 t ht
          | false =>
            simp only [hq, cond_false]
            rw [← h2 t ht, ← h1.get t (fun e => by subst e; simp at hq)]
            cases hd : o.dst with
            | none => rfl
            | some d =>
              have hne : d ≠ t := by
                rintro rfl
                have := wrL_mem hws hi d (by simp [isD, hd])
                rw [ht] at this; cases this
              simp [Act.put, Array.getD_eq_getD_getElem?, Array.getElem?_setIfInBounds, hne]
      rcases hh with ⟨hw, hh⟩ | ⟨hw, hh⟩
      · obtain ⟨v, h1, h2⟩ := takeS_run hT hh
        refine anyH_take hnd (i := i) (oi := o) (v := v) hi hs ho.1.1 ho.1.2 (fun c a w => hpan c a w v) (.inl ⟨hw, fun w' hw' => ?_⟩) (Fr.refl D w) (step h2)
        rw [ha.eval]; exact h1 w' hw'
      · exact anyH_take hnd (i := i) (oi := o) (v := undef) hi hs ho.1.1 ho.1.2 (fun c a w => hpan c a w undef) (.inr ⟨hw, rfl⟩) (Fr.refl D w) (step hh)
  | two i t j t' ih jh =>
    intro m listed F w a hm ha h0 ho h
    cases m with
    | zero => cases hm
    | succ m =>
    simp only [OT.deep, Bool.and_eq_true] at hm
    have h : drawStep P T n D ops.toList i (drawT P T n D ops.toList t) F k pn w ∧ drawStep P T n D ops.toList j (drawT P T n D ops.toList t') F k pn w := h
    simp only [ordT, Bool.and_eq_true] at ho
    obtain ⟨⟨⟨⟨⟨hr, hpi⟩, hpj⟩, _⟩, oi⟩, oj⟩ := ho
    have hr : Region.ready .any ops listed = [i, j] := by simpa using hr
    refine anyH_all hr (by simp) (fun q hq => ?_)
    simp only [List.mem_cons, List.not_mem_nil, or_false] at hq
    rcases hq with rfl | rfl
    · exact oper takeK q t m listed F w a (fun o' ho' => by simpa [plainB, ho'] using hpi) ha h0 (fun F w a ha h0 h => ih m _ F w a hm.1 ha h0 oi h) h.1
    · exact oper takeK q t' m listed F w a (fun o' ho' => by simpa [plainB, ho'] using hpj) ha h0 (fun F w a ha h0 h => jh m _ F w a hm.2 ha h0 oj h) h.2

  | lone i t ih =>
    intro m listed F w a hm ha h0 ho h
    cases m with
    | zero => cases hm
    | succ m =>
    have hm : t.deep m = true := hm
    have h : drawStepG (fun _ => false) P T n D ops.toList i (drawT P T n D ops.toList t) F k pn w := h
    simp only [ordT, Bool.and_eq_true] at ho
    have hr : Region.ready .any ops listed = [i] := by simpa using ho.1
    refine anyH_all hr (by simp) (fun j hj => ?_)
    obtain rfl : j = i := by simpa using hj
    exact oper (fun _ => false) j t m listed F w a (fun _ _ => rfl) ha h0 (fun F w a ha h0 h => ih m _ F w a hm ha h0 ho.2 h) h

  | duo i t j t' ih jh =>
    intro m listed F w a hm ha h0 ho h
    cases m with
    | zero => cases hm
    | succ m =>
    simp only [OT.deep, Bool.and_eq_true] at hm
    have h : drawStepG (fun _ => false) P T n D ops.toList i (drawT P T n D ops.toList t) F k pn w ∧ drawStepG (fun _ => false) P T n D ops.toList j (drawT P T n D ops.toList t') F k pn w := h
    simp only [ordT, Bool.and_eq_true] at ho
    obtain ⟨⟨hr, oi⟩, oj⟩ := ho
    have hr : Region.ready .any ops listed = [i, j] := by simpa using hr
    refine anyH_all hr (by simp) (fun q hq => ?_)
    simp only [List.mem_cons, List.not_mem_nil, or_false] at hq
    rcases hq with rfl | rfl
    · exact oper (fun _ => false) q t m listed F w a (fun _ _ => rfl) ha h0 (fun F w a ha h0 h => ih m _ F w a hm.1 ha h0 oi h) h.1
    · exact oper (fun _ => false) q t' m listed F w a (fun _ _ => rfl) ha h0 (fun F w a ha h0 h => jh m _ F w a hm.2 ha h0 oj h) h.2

theorem drawRT (hT : T.ok P = true) (hm : P.follows .mixedOrders = true) (D : Nat → Prop) (t : OT) {i : Nat} {ops : Array Oper} {Q : KS} {F : Nat → Value} {w : World} (ho : ordTOK ops t = true)
    (h : ∀ w', Stp w w' → w'.heap = w.heap → drawT P T n D ops.toList t F Q.nrm (fun c w => ∀ F', agree (wr (.region i ops true)) F F' → Q.pan F' c w) w') : DeepS P T n (.region i ops true) Q F w := by
  rw [DeepS_iff]
  intro md hmd a ha
  simp only [ordTOK, Bool.and_eq_true] at ho
  have hd := drawT_any hT (r := md) D ops F (wr (.region i ops true)) (fun t ht => ht) Q.nrm (fun c w => ∀ F', agree (wr (.region i ops true)) F F' → Q.pan F' c w) ho.1.1.1 ho.1.1.2 t ops.size (Array.replicate ops.size false) F _ a ho.1.2 ha (fun _ _ => rfl) ho.2 (h _ ⟨Ext.drew w⟩ rfl)
  refine Code.wpIn_mono ?_ (wpIn_region_any hm (anyIn_of_held _ _ _ _ hd))
  intro e a' w' hq
  cases e <;> simp only [LQ] at hq <;> simp only [KS.lift]
  · exact hq
  · obtain ⟨F', h1, h2, h3⟩ := hq; exact ⟨F', h1, h2, h3 F' h2⟩
end
end Go.W
