/-
  Proved here: ranging over a function: the call of yield, and the statement.
  Conditions: those that each fact names.
-/
import Derived.Test.YtgplodgpbhddbaaW12
namespace Go.W
open Go
open Enc (enc)

/-! calls of yield -/
/-- called in this world with these, yield answers, and R holds of what it answers -/
structure YieldS (P : Program) (l : Nat) (vs : List Value) (w : World) (R : Bool → World → Prop) : Prop where
  out : ∃ r : Loop, w.heap[l]? = some (.loop r) ∧ vs.length = r.params.size ∧
    RoundIn Fence.wide 0 P l r.fn ((r.params.zip vs.toArray).foldl (fun tmps (t, a) => tmps.setIfInBounds t a) r.tmps) r.assign r.body w (RetP (fun v w' => ∃ b, v = .bool b ∧ R b w') (fun _ _ => False))
abbrev yl (l : Nat) : Value := .func (.yield l) #[] #[]

section
variable {P : Program}

theorem ryield {o : Oper} {F : Nat → Value} {c : Call} {f : Operand} {l : Nat} {vs : List Value} {k : Value → World → Prop} {pn : List PanicEntry → World → Prop} {w : World}
    (ho : o.op = .call c) (hc : c.callee = .value f) (hf : ev F f = yl l) (hv : evL F c.args.toList = vs) {R : Bool → World → Prop} (h : YieldS P l vs w R) (hk : ∀ b w', R b w' → k (.bool b) w') : NextS P (execOp (ev F) o) k pn w := by
  obtain ⟨r, h1, h2, h3⟩ := h.out
  have hva : c.args.map (ev F) = vs.toArray := by rw [← hv, evL_arr]
  have e : (execOp (ev F) o).run P w = .ok (.round l r.fn ((r.params.zip vs.toArray).foldl (fun tmps (t, a) => tmps.setIfInBounds t a) r.tmps) r.assign r.body) w := by
    unfold execOp
    simp only [ho, resolve, hc, hf, Deferred.ofValue, hva]
    simp only [pure_bind, invoke]
    have := run_yield (P := P) (args := vs.toArray) h1 (by simpa using h2)
    simpa [yl] using this
  rw [NextS_iff, e]
  exact ⟨h3.mono fun e w' he => by
    cases e with
    | returned v => obtain ⟨b, rfl, hb⟩ := he; exact hk b w' hb
    | panicked c => exact he.elim
    | outgrown => exact he.elim⟩

/-! worlds in which only the records of ranges are others -/
structure Qt (B : Nat) (u u' : World) : Prop where
  os : u'.os = u.os
  tape : u'.tape = u.tape
  output : u'.output = u.output
  size : u.heap.size ≤ u'.heap.size
  block : ∀ b o, u.heap[b]? = some o → (b < B ∨ isRec o = false) → u'.heap[b]? = some o
theorem Qt.of_ext {B : Nat} {u u' : World} (e : Ext u u') : Qt B u u' := ⟨e.os, e.tape, e.output, e.size, fun b o hb _ => by rw [e.block b (blk_lt hb) id]; exact hb⟩
theorem Qt.put {B : Nat} {u : World} {l : Nat} {o o' : Obj} (hl : u.heap[l]? = some o) (ho : isRec o = true) (hB : B ≤ l) : Qt B u (u.putObj l o') :=
  ⟨rfl, rfl, rfl, by simp, fun b x hb hx => by
    rw [World.putObj_heap_other]
    · exact hb
    · rintro rfl
      rw [hl] at hb; cases hb
      rcases hx with h | h
      · omega
      · rw [ho] at h; cases h⟩
theorem Fr.qt {D : Nat → Prop} {w u u' : World} (h : Fr D w u) (q : Qt w.heap.size u u') : Fr D w u' :=
  ⟨q.os.trans h.os, q.tape.trans h.tape, q.output.trans h.output, Nat.le_trans h.size q.size, fun b hb hd => by
    have h1 := h.block b hb hd
    rw [← h1]
    have : ∃ o, u.heap[b]? = some o := ⟨_, Array.getElem?_eq_getElem (Nat.lt_of_lt_of_le hb h.size)⟩
    obtain ⟨o, ho⟩ := this
    rw [ho]; exact q.block b o ho (.inl hb), fun b o hb ho => q.block b o (h.nc b o hb ho) (.inl (blk_lt hb))⟩
theorem Stp.qt {w u u' : World} (h : Stp w u) (q : Qt w.heap.size u u') : Stp w u' := ⟨h.e.qt q⟩
theorem Qt.mono {B B' : Nat} {u u' : World} (q : Qt B u u') (h : B' ≤ B) : Qt B' u u' := ⟨q.os, q.tape, q.output, q.size, fun b o hb ho => q.block b o hb (ho.imp (fun h' => by omega) id)⟩
theorem cell_qt {B : Nat} {u u' : World} (q : Qt B u u') {a : Addr} {v : Value} (hc : u.cell? a = some v) : u'.cell? a = some v := by
  have hlt := World.block_lt_of_cell? u a hc
  have : ∃ o, u.heap[a.block]? = some o := ⟨_, Array.getElem?_eq_getElem hlt⟩
  obtain ⟨o, ho⟩ := this
  have hr : isRec o = false := by
    unfold World.cell? at hc
    rw [ho] at hc
    cases o <;> first | rfl | simp at hc
  rw [World.cell?_of_block (w := u) (by rw [ho]; exact q.block _ _ ho (.inr hr))]; exact hc
theorem At.qt {B : Nat} {u u' : World} {b o : Nat} {cs : List Value} (h : At u b o cs) (q : Qt B u u') : At u' b o cs := fun j v hj => cell_qt q (h j v hj)
theorem blk_qt {B : Nat} {u u' : World} {b : Nat} {cs : Array Value} {e : TypeId} {z : Nat × Nat} (h : u.heap[b]? = some (.cells cs e z)) (q : Qt B u u') : u'.heap[b]? = some (.cells cs e z) := q.block b _ h (.inr rfl)
theorem SlF.qt {α : Type} [Enc α] {B : Nat} {u u' : World} {v : Value} {l : List α} (h : SlF u v l) (q : Qt B u u') : SlF u' v l := by
  obtain ⟨a, c, hv, hc, h⟩ := h
  exact ⟨a, c, hv, hc, h.imp id fun ⟨b, o, ha, hat⟩ => ⟨b, o, ha, hat.qt q⟩⟩
theorem Own.qt {α : Type} [Enc α] {B C : Nat} {e : TypeId} {u u' : World} {v : Value} {l : List α} (h : Own C e u v l) (q : Qt B u u') : Own C e u' v l := by
  rcases h with h | h
  · exact .inl h
  · refine .inr ⟨h.1, ?_⟩
    rcases h.2 with hn | ⟨g, cap, cur, rfl, hb, hg, rest⟩
    · exact .inl hn
    · exact .inr ⟨g, cap, cur, rfl, hb, blk_qt hg q, rest⟩

/-! what an iterator does -/
/-- the function g, given a yield, hands it the xs one behind the other, till it answers false; Dat: what g reads -/
structure SeqOf (P : Program) (g : FuncId) (first cap : List Value) (Dat : World → Prop) (xs : List (List Value)) : Prop where
  out : ∀ (l : Nat) (J : Nat → World → Prop) (Jx : World → Prop) (w : World), (∀ i u u', J i u → Ext u u' → J i u') → (∀ u u', Jx u → Ext u u' → Jx u') → (∀ i u, J i u → Dat u) →
    (∀ i u x, xs[i]? = some x → J i u → YieldS P l x u fun b u' => (b = true ∧ J (i + 1) u') ∨ (b = false ∧ Jx u')) → J 0 w →
    Sp P g (first ++ [yl l] ++ cap).toArray w fun _ w' => J xs.length w' ∨ Jx w'

/-- the frame of a round -/
def rdF (F : Nat → Value) : List Nat → List Value → Nat → Value
  | s :: r, v :: vs => rdF (upd F s v) r vs
  | _, _ => upd F 4294967296 undef

theorem zip_cons {α β : Type} (a : α) (b : β) (as : List α) (bs : List β) : ((a :: as).toArray.zip (b :: bs).toArray) = (((a, b) :: as.zip bs)).toArray := by simp
theorem round_rel {n : Nat} (hn : n ≤ 4294967296) : ∀ (ps : List Nat) (vs : List Value) (F : Nat → Value) (a : Act), Rel n F a → (∀ s ∈ ps, s < n) → vs.length = ps.length →
    Rel n (rdF F ps vs) { tmps := (ps.zip vs).foldl (fun t (s, v) => t.setIfInBounds s v) a.tmps, defers := [] }
  | [], vs, F, a, h, _, hl => by
    have : vs = [] := List.eq_nil_of_length_eq_zero (by simpa using hl)
    subst this
    refine ⟨h.size, hn, ?_, fun t ht => ?_⟩
    · show [] = decD (upd F 4294967296 undef 4294967296)
      unfold upd; rw [show Nat.beq 4294967296 4294967296 = true from rfl]; rfl
    · have hb : Nat.beq t 4294967296 = false := by
        cases hq : Nat.beq t 4294967296 with
        | false => rfl
        | true => exact absurd (Nat.eq_of_beq_eq_true hq) ht
      show a.tmps.getD t undef = upd F 4294967296 undef t
      unfold upd; rw [hb]; exact h.get t ht
  | s :: r, [], _, _, _, _, hl => by simp at hl
  | s :: r, v :: vs, F, a, h, hs, hl => by
    have hput : Rel n (upd F s v) (a.put (some s) v) := by
      have hk : putS n F (some s) v (fun F' => F' = upd F s v) := by
        simp only [putS]
        have : Nat.blt s n = true := by simpa [Nat.blt_eq] using hs s (List.mem_cons_self ..)
        rw [this]; trivial
      obtain ⟨F', h1, _, rfl⟩ := h.put hk
      exact h1
    have := round_rel hn r vs (upd F s v) (a.put (some s) v) hput (fun x hx => hs x (List.mem_cons_of_mem _ hx)) (by simpa using hl)
    simpa [rdF, Act.put] using this

def allLt (n : Nat) : List Nat → Bool
  | [] => true
  | s :: r => Nat.blt s n && allLt n r
theorem allLt_spec {n : Nat} : ∀ {l : List Nat}, allLt n l = true → ∀ s ∈ l, s < n
  | [], _, s, hs => by cases hs
  | x :: r, h, s, hs => by
    simp only [allLt, Bool.and_eq_true] at h
    rcases List.mem_cons.1 hs with rfl | hs
    · simpa [Nat.blt_eq] using h.1
    · exact allLt_spec h.2 s hs

/-- where a range's mark stands -/
abbrev markF (F : Nat → Value) (D : Nat) : Nat → Value := upd F 4294967296 (consD (.pointer (some ⟨D, 0, none⟩)) (F 4294967296))
theorem fw_in (r : Option Nat) (l : Nat) : (fw r).inRound l = fw (some l) := rfl

theorem rrange {T : Tab} {n : Nat} (hT : T.ok P = true) (hr : T.round = false) {g : Operand} {ps : Array Tmp} {assign body : Code} {Q : KS} {F : Nat → Value} {w : World} {gf : FuncId} {first cap : List Value} {xs : List (List Value)} {Dat : World → Prop}
    (hg : ev F g = .func (.func gf) first.toArray cap.toArray) (hps : allLt n ps.toList = true)
    (hseq : SeqOf P gf first cap Dat xs) (hxs : ∀ x ∈ xs, x.length = ps.toList.length)
    (I : Nat → World → Prop) (Ix : Code → World → Prop) (hI : ∀ i u u', I i u → Qt w.heap.size u u' → I i u') (hIx : ∀ c u u', Ix c u → Qt w.heap.size u u' → Ix c u') (hD : ∀ i u, I i u → Dat u) (h0 : I 0 w)
    (hround : ∀ i x u, xs[i]? = some x → I i u → S P { T with round := true } n assign
      { nrm := fun F1 u1 => Ext u u1 ∧ (∀ c, Qt w.heap.size u1 c → S P { T with round := true } n body { nrm := fun _ u2 => I (i + 1) u2 ∧ ∃ D, Fr D c u2, ext := fun j _ u2 => Ix (.exit j) u2 ∧ ∃ D, Fr D c u2, ret := fun _ u2 => Ix .ret u2 ∧ ∃ D, Fr D c u2, pan := fun _ _ _ => False } F1 c), ext := fun _ _ _ => False, ret := fun _ _ => False, pan := fun _ _ _ => False } (rdF F ps.toList x) u)
    (hdone : ∀ D u, I xs.length u → w.heap.size ≤ D → u.heap[D]? = some (.deferred (some [])) → Q.nrm (markF F D) u)
    (hstop : ∀ c D u, Ix c u → w.heap.size ≤ D → u.heap[D]? = some (.deferred (some [])) → match c with | .ret => Q.ret (markF F D) u | .exit j => Q.ext j (markF F D) u | _ => False) :
    DeepS P T n (.rangeFunc g ps assign body) Q F w := by
  rw [DeepS_iff]
  intro md hmd a ha
  have hmn : md = none := by cases md with | none => rfl | some _ => rw [hr] at hmd; cases hmd
  subst hmn
  refine wpIn_rangeFunc ?_
  intro fn _
  have hro : (fw none).round = none := rfl
  rw [hro]
  obtain ⟨rec, hrec⟩ : ∃ rec : LoopState → Option Code → Loop, rec = fun st pe => { state := st, pending := pe, fn, tmps := a.tmps, params := ps, assign, body, defers := w.heap.size } := ⟨_, rfl⟩
  obtain ⟨W1, hW1⟩ : ∃ W1, (w.alloc (.deferred (some []))).alloc (.loop (rec .ready none)) = W1 := ⟨_, rfl⟩
  have hE1 : Ext w W1 := by rw [← hW1]; exact (Ext.alloc w _).t (Ext.alloc _ _)
  have hL1 : W1.heap[w.heap.size + 1]? = some (.loop (rec .ready none)) := by
    rw [← hW1]; have := World.alloc_heap_new (w.alloc (.deferred (some []))) (.loop (rec .ready none)); rwa [World.size_alloc] at this
  have hK1 : W1.heap[w.heap.size]? = some (.deferred (some [])) := by
    rw [← hW1]; exact (Go.RowKit.Below.heap_alloc _ _ _ (by simp)).trans (World.alloc_heap_new w _)
  have hgv : a.eval g = .func (.func gf) first.toArray cap.toArray := by rw [ha.eval]; exact hg
  -- the iterator, at the caller's invariant
  have hiter := hseq.out (w.heap.size + 1)
    (fun i u => I i u ∧ u.heap[w.heap.size + 1]? = some (.loop (rec .ready none)) ∧ u.heap[w.heap.size]? = some (.deferred (some [])))
    (fun u => ∃ c, Ix c u ∧ u.heap[w.heap.size + 1]? = some (.loop (rec .done (some c))) ∧ u.heap[w.heap.size]? = some (.deferred (some []))) W1
    (fun i u u' h e => ⟨hI i u u' h.1 (.of_ext e), e.nc _ _ h.2.1 rfl, e.nc _ _ h.2.2 rfl⟩)
    (fun u u' h e => by obtain ⟨c, h1, h2, h3⟩ := h; exact ⟨c, hIx c u u' h1 (.of_ext e), e.nc _ _ h2 rfl, e.nc _ _ h3 rfl⟩)
    (fun i u h => hD i u h.1) ?_ ⟨hI 0 w W1 h0 (.of_ext hE1), hL1, hK1⟩
  · refine ⟨w.heap.size + 1, [{ target := .collected w.heap.size, args := #[] }], W1, { target := .fn (.func gf) cap.toArray, args := first.toArray ++ #[yl (w.heap.size + 1)] }, W1, gf,
      (first ++ [yl (w.heap.size + 1)] ++ cap).toArray, W1, ?_, ?_, fun _ _ => trivial, ?_, fun h => by simp [fw, Fence.wide] at h, ?_⟩
    · rw [← hW1, hrec]; exact run_enterLoop_outer _ _ _ _ _
    · simp only [resolve, hgv]
      simp [Deferred.ofValue, yl, Act.eval]
    · have : (callFunc gf (first ++ [yl (w.heap.size + 1)] ++ cap).toArray).run P W1 = .ok (.enter gf (first ++ [yl (w.heap.size + 1)] ++ cap).toArray) W1 := callFunc_run hiter.can W1
      simpa [invoke] using this
    · refine callsIn_fw none (hiter.calls.mono ?_)
      intro e u he
      have hrel : ∀ u : World, Rel n (markF F w.heap.size) { a with defers := [{ target := .collected w.heap.size, args := #[] }] ++ a.defers } := fun _ => by
        refine ⟨ha.size, ha.le, ?_, fun t ht => ?_⟩
        · show _ :: a.defers = decD (markF F w.heap.size 4294967296)
          unfold markF upd
          rw [show Nat.beq 4294967296 4294967296 = true from rfl, cond_true, ha.defers]
          exact (decD_cons _ _ _ rfl).symm
        · have hb : Nat.beq t 4294967296 = false := by
            cases hq : Nat.beq t 4294967296 with
            | false => rfl
            | true => exact absurd (Nat.eq_of_beq_eq_true hq) ht
          show a.tmps.getD t undef = markF F w.heap.size t
          unfold markF upd; rw [hb]; exact ha.get t ht
      have hag : agree (wr (.rangeFunc g ps assign body)) F (markF F w.heap.size) := by
        intro t ht
        unfold markF upd
        have : Nat.beq t 4294967296 = false := ht
        rw [this]; rfl
      cases e with
      | returned v =>
        rcases he with ⟨h1, h2, h3⟩ | ⟨c, h1, h2, h3⟩
        · refine ⟨none, u.putObj (w.heap.size + 1) (.loop { rec .ready none with state := .exhausted }), ?_, ?_⟩
          · have := run_endLoop (P := P) h2 (by rw [hrec]; simp); rw [hrec] at this ⊢; exact this
          · exact ⟨_, hrel u, hag, hdone _ _ (hI _ _ _ h1 (Qt.put h2 rfl (by omega))) (Nat.le_refl _) ((World.putObj_heap_other (by omega)).trans h3)⟩
        · refine ⟨some c, u.putObj (w.heap.size + 1) (.loop { rec .done (some c) with state := .exhausted }), ?_, ?_⟩
          · have := run_endLoop (P := P) h2 (by rw [hrec]; simp); rw [hrec] at this ⊢; exact this
          · have hs := hstop c w.heap.size _ (hIx _ _ _ h1 (Qt.put (o' := .loop { rec .done (some c) with state := .exhausted }) h2 rfl (by omega))) (Nat.le_refl _) ((World.putObj_heap_other (by omega)).trans h3)
            cases c <;> first | exact hs.elim | skip
            · exact wpIn_exit ⟨_, hrel u, hag, hs⟩
            · exact wpIn_ret ⟨_, hrel u, hag, hs⟩
      | panicked c => exact he.elim
      | outgrown => exact he.elim
  · -- one round
    intro i u x hx hh
    obtain ⟨hi, hl, hk⟩ := hh
    have hlt := blk_lt hl
    have hxl := hxs x (List.mem_of_getElem? hx)
    have hln : rec .ready none = { state := .ready, pending := none, fn, tmps := a.tmps, params := ps, assign, body, defers := w.heap.size } := by rw [hrec]
    refine ⟨rec .ready none, hl, by rw [hln]; simpa using hxl, ?_⟩
    have htm : (((rec .ready none).params.zip x.toArray).foldl (fun tmps (t, a) => tmps.setIfInBounds t a) (rec .ready none).tmps) = (ps.toList.zip x).foldl (fun t (s, v) => t.setIfInBounds s v) a.tmps := by
      rw [hln]
      show (ps.zip x.toArray).foldl _ a.tmps = _
      rw [← Array.foldl_toList]; simp
    have hrel := round_rel ha.le ps.toList x F a ha (allLt_spec hps) hxl
    have hR := hround i x u hx hi
    have e1 : (rec .ready none).fn = fn := by rw [hln]
    have e2 : (rec .ready none).assign = assign := by rw [hln]
    have e3 : (rec .ready none).body = body := by rw [hln]
    rw [htm, e1, e2, e3]
    have hTR : ({ T with round := true } : Tab).ok P = true := hT
    have hround' : RoundIn (fw none) 0 P (w.heap.size + 1) fn ((ps.toList.zip x).foldl (fun t (s, v) => t.setIfInBounds s v) a.tmps) assign body u
        (RetP (fun v w' => ∃ b, v = .bool b ∧ ((b = true ∧ (I (i + 1) w' ∧ w'.heap[w.heap.size + 1]? = some (.loop (rec .ready none)) ∧ w'.heap[w.heap.size]? = some (.deferred (some [])))) ∨
          (b = false ∧ ∃ c, Ix c w' ∧ w'.heap[w.heap.size + 1]? = some (.loop (rec .done (some c))) ∧ w'.heap[w.heap.size]? = some (.deferred (some []))))) (fun _ _ => False)) := by
      refine roundIn_of_wpIn trivial ?_
      rw [fw_in]
      refine Code.wpIn_mono ?_ (S_sound hTR assign _ _ _ hR (some (w.heap.size + 1)) rfl _ hrel)
      intro e a1 u1 hq
      cases e <;> simp only [KS.lift, Exit.then] at hq ⊢
      case normal =>
        obtain ⟨F1, h1, _, hE, hb⟩ := hq
        have hl1 := hE.nc _ _ hl rfl
        have hk1 := hE.nc _ _ hk rfl
        refine ⟨_, run_beginRound hl1 (by rw [hln]), ?_⟩
        have hlt1 := blk_lt hl1
        have hl2 : (u1.putObj (w.heap.size + 1) (.loop { rec .ready none with state := .busy })).heap[w.heap.size + 1]? = some (.loop { rec .ready none with state := .busy }) := World.putObj_heap_same hlt1
        have hk2 : (u1.putObj (w.heap.size + 1) (.loop { rec .ready none with state := .busy })).heap[w.heap.size]? = some (.deferred (some [])) := (World.putObj_heap_other (by omega)).trans hk1
        have hbody := hb _ (Qt.put (o' := .loop { rec .ready none with state := .busy }) hl1 rfl (by omega))
        refine Code.wpIn_mono ?_ (S_sound hTR body _ _ _ hbody (some (w.heap.size + 1)) rfl a1 h1)
        have fin : ∀ (jump : Option Code) (W3 : World), (∃ D, Fr D (u1.putObj (w.heap.size + 1) (.loop { rec .ready none with state := .busy })) W3) →
            (Instr.endRound (w.heap.size + 1) jump).run P W3 = .ok (.bool jump.isNone) (W3.putObj (w.heap.size + 1) (.loop (rec (if jump.isNone then .ready else .done) jump))) ∧
            (Qt w.heap.size W3 (W3.putObj (w.heap.size + 1) (.loop (rec (if jump.isNone then .ready else .done) jump)))) ∧
            (W3.putObj (w.heap.size + 1) (.loop (rec (if jump.isNone then .ready else .done) jump))).heap[w.heap.size + 1]? = some (.loop (rec (if jump.isNone then .ready else .done) jump)) ∧
            (W3.putObj (w.heap.size + 1) (.loop (rec (if jump.isNone then .ready else .done) jump))).heap[w.heap.size]? = some (.deferred (some [])) := fun jump W3 hk3 => by
          obtain ⟨D, hk3⟩ := hk3
          have hl3 := hk3.nc _ _ hl2 rfl
          have := run_endRound (P := P) jump hl3
          refine ⟨?_, Qt.put hl3 rfl (by omega), World.putObj_heap_same (blk_lt hl3), (World.putObj_heap_other (by omega)).trans (hk3.nc _ _ hk2 rfl)⟩
          rw [hrec] at this ⊢; exact this
        intro e a3 W3 hp
        cases e <;> simp only [KS.lift, roundPost] at hp ⊢
        case normal =>
          obtain ⟨_, _, _, hi3, hk3⟩ := hp
          obtain ⟨h1, h2, h3, h4⟩ := fin none W3 hk3
          exact ⟨_, _, h1, _, rfl, .inl ⟨rfl, hI _ _ _ hi3 h2, h3, h4⟩⟩
        case exit j =>
          obtain ⟨_, _, _, hi3, hk3⟩ := hp
          obtain ⟨h1, h2, h3, h4⟩ := fin (some (.exit j)) W3 hk3
          exact ⟨_, _, h1, _, rfl, .inr ⟨rfl, _, hIx _ _ _ hi3 h2, h3, h4⟩⟩
        case ret =>
          obtain ⟨_, _, _, hi3, hk3⟩ := hp
          obtain ⟨h1, h2, h3, h4⟩ := fin (some .ret) W3 hk3
          exact ⟨_, _, h1, _, rfl, .inr ⟨rfl, _, hIx _ _ _ hi3 h2, h3, h4⟩⟩
        case panic c => obtain ⟨_, _, _, h⟩ := hp; exact h.elim
      case exit j => obtain ⟨_, _, _, h⟩ := hq; exact h.elim
      case ret => obtain ⟨_, _, _, h⟩ := hq; exact h.elim
      case panic c => obtain ⟨_, _, _, h⟩ := hq; exact h.elim
    exact hround'
end
end Go.W
