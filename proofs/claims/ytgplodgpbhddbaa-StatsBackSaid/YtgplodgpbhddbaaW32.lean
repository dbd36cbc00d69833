/-
  Proved here: ranging over a function that writes blocks of its own, or hands over things in an order that is open.
  Conditions: those that each fact names.
-/
import Derived.Test.YtgplodgpbhddbaaW31
namespace Go.W
open Go
open Enc (enc)
theorem Fr.blk' {D : Nat → Prop} {w w' : World} (h : Fr D w w') {b : Nat} {o : Obj} (hb : w.heap[b]? = some o) (hd : ¬ D b) : w'.heap[b]? = some o := by rw [h.block b (blk_lt hb) hd]; exact hb
theorem Fr.blk0 {w w' : World} (h : Ext w w') {b : Nat} {o : Obj} (hb : w.heap[b]? = some o) : w'.heap[b]? = some o := h.blk' hb not_false
theorem cell_lt {w : World} {b o : Nat} {f : Option Nat} {v : Value} (h : w.cell? ⟨b, o, f⟩ = some v) : b < w.heap.size := by
  rcases Nat.lt_or_ge b w.heap.size with h1 | h1
  · exact h1
  · unfold World.cell? at h; rw [Array.getElem?_eq_none h1] at h; cases h
theorem Qt.trans {B : Nat} {a b c : World} (h : Qt B a b) (k : Qt B b c) : Qt B a c :=
  ⟨k.os.trans h.os, k.tape.trans h.tape, k.output.trans h.output, Nat.le_trans h.size k.size, fun i o ho hb => k.block i o (h.block i o ho hb) hb⟩
section
variable {P : Program}
/-- The function g, given a yield, hands it values one behind the other: behind ys may come x (Nx), or the end (En). Qi: what g itself does to the world between; Rb: what the yield does; St: what g needs at first. -/
structure SeqG (P : Program) (g : FuncId) (first cap : List Value) (Qi Rb : World → World → Prop) (St : World → Prop) (Nx : List (List Value) → List Value → World → Prop) (En : List (List Value) → Prop) : Prop where
  out : ∀ (l : Nat) (J : List (List Value) → World → Prop) (Jx : World → Prop) (w : World), (∀ i u u', J i u → Qi u u' → J i u') → (∀ u u', Jx u → Qi u u' → Jx u') →
    (∀ i u x, Nx i x u → J i u → YieldS P l x u fun b u' => ((b = true ∧ J (i ++ [x]) u') ∨ (b = false ∧ Jx u')) ∧ Rb u u') → J [] w → St w →
    Sp P g (first ++ [yl l] ++ cap).toArray w fun _ w' => (∃ i, En i ∧ J i w') ∨ Jx w'
theorem rrangeG {T : Tab} {n : Nat} (hT : T.ok P = true) (hr : T.round = false) {g : Operand} {ps : Array Tmp} {assign body : Code} {Q : KS} {F : Nat → Value} {w : World} {gf : FuncId} {first cap : List Value} {Qi Rb Rc : World → World → Prop} {St : World → Prop} {Nx : List (List Value) → List Value → World → Prop} {En : List (List Value) → Prop}
    (hg : ev F g = .func (.func gf) first.toArray cap.toArray) (hps : allLt n ps.toList = true)
    (hseq : SeqG P gf first cap Qi Rb St Nx En) (hxs : ∀ ys x u, Nx ys x u → x.length = ps.toList.length) (hQi : ∀ u u', Qi u u' → ∃ D, Fr D u u')
    (I : List (List Value) → World → Prop) (Ix : Code → World → Prop) (hI : ∀ i u u', I i u → Qt w.heap.size u u' → I i u') (hIx : ∀ c u u', Ix c u → Qt w.heap.size u u' → Ix c u')
    (hIQ : ∀ i u u', w.heap.size ≤ u.heap.size → I i u → Qi u u' → I i u') (hIxQ : ∀ c u u', w.heap.size ≤ u.heap.size → Ix c u → Qi u u' → Ix c u')
    (hRb : ∀ u c u2 u3, Qt w.heap.size u c → Rc c u2 → Qt w.heap.size u2 u3 → Rb u u3) (hRc : ∀ c u, Rc c u → ∃ D, Fr D c u) (hSt : ∀ w', Ext w w' → St w') (h0 : I [] w)
    (hround : ∀ i x u, Nx i x u → (∃ o, u.heap[w.heap.size]? = some o) → I i u → S P { T with round := true } n assign
      { nrm := fun F1 u1 => Ext u u1 ∧ (∀ c, Qt w.heap.size u1 c → S P { T with round := true } n body { nrm := fun _ u2 => I (i ++ [x]) u2 ∧ Rc c u2, ext := fun j _ u2 => Ix (.exit j) u2 ∧ Rc c u2, ret := fun _ u2 => Ix .ret u2 ∧ Rc c u2, pan := fun _ _ _ => False } F1 c), ext := fun _ _ _ => False, ret := fun _ _ => False, pan := fun _ _ _ => False } (rdF F ps.toList x) u)
    (hdone : ∀ i D u, En i → I i u → w.heap.size ≤ D → u.heap[D]? = some (.deferred (some [])) → Q.nrm (markF F D) u)
    (hstop : ∀ c D u, Ix c u → w.heap.size ≤ D → u.heap[D]? = some (.deferred (some [])) → match c with | .ret => Q.ret (markF F D) u | .exit j => Q.ext j (markF F D) u | _ => False) :
    DeepS P T n (.rangeFunc g ps assign body) Q F w := by
  rw [DeepS_iff]
  intro md hmd a ha
  have hmn : md = none := by cases md with | none => rfl | some _ => rw [hr] at hmd; cases hmd
  subst hmn
  refine wpIn_rangeFunc ?_
  intro fn _
  have hro : (fw none).round = none := rfl
  rw [hro]
  obtain ⟨rec, hrec⟩ : ∃ rec : LoopState → Option Code → Loop, rec = fun st pe => { state := st, pending := pe, fn, tmps := a.tmps, params := ps, assign, body, defers := w.heap.size } := ⟨_, rfl⟩
  obtain ⟨W1, hW1⟩ : ∃ W1, (w.alloc (.deferred (some []))).alloc (.loop (rec .ready none)) = W1 := ⟨_, rfl⟩
  have hE1 : Ext w W1 := by rw [← hW1]; exact (Ext.alloc w _).t (Ext.alloc _ _)
  have hL1 : W1.heap[w.heap.size + 1]? = some (.loop (rec .ready none)) := by
    rw [← hW1]; have := World.alloc_heap_new (w.alloc (.deferred (some []))) (.loop (rec .ready none)); rwa [World.size_alloc] at this
  have hK1 : W1.heap[w.heap.size]? = some (.deferred (some [])) := by
    rw [← hW1]; exact (Go.RowKit.Below.heap_alloc _ _ _ (by simp)).trans (World.alloc_heap_new w _)
  have hgv : a.eval g = .func (.func gf) first.toArray cap.toArray := by rw [ha.eval]; exact hg
  -- the iterator, at the caller's invariant
  have hiter := hseq.out (w.heap.size + 1)
    (fun i u => I i u ∧ u.heap[w.heap.size + 1]? = some (.loop (rec .ready none)) ∧ u.heap[w.heap.size]? = some (.deferred (some [])))
    (fun u => ∃ c, Ix c u ∧ u.heap[w.heap.size + 1]? = some (.loop (rec .done (some c))) ∧ u.heap[w.heap.size]? = some (.deferred (some []))) W1
    (fun i u u' h q => by obtain ⟨D, e⟩ := hQi u u' q; exact ⟨hIQ i u u' (by have := blk_lt h.2.1; omega) h.1 q, e.nc _ _ h.2.1 rfl, e.nc _ _ h.2.2 rfl⟩)
    (fun u u' h q => by obtain ⟨D, e⟩ := hQi u u' q; obtain ⟨c, h1, h2, h3⟩ := h; exact ⟨c, hIxQ c u u' (by have := blk_lt h2; omega) h1 q, e.nc _ _ h2 rfl, e.nc _ _ h3 rfl⟩)
    ?_ ⟨hI [] w W1 h0 (.of_ext hE1), hL1, hK1⟩ (hSt W1 hE1)
  · refine ⟨w.heap.size + 1, [{ target := .collected w.heap.size, args := #[] }], W1, { target := .fn (.func gf) cap.toArray, args := first.toArray ++ #[yl (w.heap.size + 1)] }, W1, gf,
      (first ++ [yl (w.heap.size + 1)] ++ cap).toArray, W1, ?_, ?_, fun _ _ => trivial, ?_, fun h => by simp [fw, Fence.wide] at h, ?_⟩
    · rw [← hW1, hrec]; exact run_enterLoop_outer _ _ _ _ _
    · simp only [resolve, hgv]
      simp [Deferred.ofValue, yl, Act.eval]
    · have : (callFunc gf (first ++ [yl (w.heap.size + 1)] ++ cap).toArray).run P W1 = .ok (.enter gf (first ++ [yl (w.heap.size + 1)] ++ cap).toArray) W1 := callFunc_run hiter.can W1
      simpa [invoke] using this
    · refine callsIn_fw none (hiter.calls.mono ?_)
      intro e u he
      have hrel : ∀ u : World, Rel n (markF F w.heap.size) { a with defers := [{ target := .collected w.heap.size, args := #[] }] ++ a.defers } := fun _ => by
        refine ⟨ha.size, ha.le, ?_, fun t ht => ?_⟩
        · show _ :: a.defers = decD (markF F w.heap.size 4294967296)
          unfold markF upd
          rw [show Nat.beq 4294967296 4294967296 = true from rfl, cond_true, ha.defers]
          exact (decD_cons _ _ _ rfl).symm
        · have hb : Nat.beq t 4294967296 = false := by
            cases hq : Nat.beq t 4294967296 with
            | false => rfl
            | true => exact absurd (Nat.eq_of_beq_eq_true hq) ht
          show a.tmps.getD t undef = markF F w.heap.size t
          unfold markF upd; rw [hb]; exact ha.get t ht
      have hag : agree (wr (.rangeFunc g ps assign body)) F (markF F w.heap.size) := by
        intro t ht
        unfold markF upd
        have : Nat.beq t 4294967296 = false := ht
        rw [this]; rfl
      cases e with
      | returned v =>
        rcases he with ⟨ys, hys, h1, h2, h3⟩ | ⟨c, h1, h2, h3⟩
        · refine ⟨none, u.putObj (w.heap.size + 1) (.loop { rec .ready none with state := .exhausted }), ?_, ?_⟩
          · have := run_endLoop (P := P) h2 (by rw [hrec]; simp); rw [hrec] at this ⊢; exact this
          · exact ⟨_, hrel u, hag, hdone _ _ _ hys (hI _ _ _ h1 (Qt.put h2 rfl (by omega))) (Nat.le_refl _) ((World.putObj_heap_other (by omega)).trans h3)⟩
        · refine ⟨some c, u.putObj (w.heap.size + 1) (.loop { rec .done (some c) with state := .exhausted }), ?_, ?_⟩
          · have := run_endLoop (P := P) h2 (by rw [hrec]; simp); rw [hrec] at this ⊢; exact this
          · have hs := hstop c w.heap.size _ (hIx _ _ _ h1 (Qt.put (o' := .loop { rec .done (some c) with state := .exhausted }) h2 rfl (by omega))) (Nat.le_refl _) ((World.putObj_heap_other (by omega)).trans h3)
            cases c <;> first | exact hs.elim | skip
            · exact wpIn_exit ⟨_, hrel u, hag, hs⟩
            · exact wpIn_ret ⟨_, hrel u, hag, hs⟩
      | panicked c => exact he.elim
      | outgrown => exact he.elim
  · -- one round
    intro i u x hx hh
    obtain ⟨hi, hl, hk⟩ := hh
    have hlt := blk_lt hl
    have hxl := hxs i x u hx
    have hln : rec .ready none = { state := .ready, pending := none, fn, tmps := a.tmps, params := ps, assign, body, defers := w.heap.size } := by rw [hrec]
    refine ⟨rec .ready none, hl, by rw [hln]; simpa using hxl, ?_⟩
    have htm : (((rec .ready none).params.zip x.toArray).foldl (fun tmps (t, a) => tmps.setIfInBounds t a) (rec .ready none).tmps) = (ps.toList.zip x).foldl (fun t (s, v) => t.setIfInBounds s v) a.tmps := by
      rw [hln]
      show (ps.zip x.toArray).foldl _ a.tmps = _
      rw [← Array.foldl_toList]; simp
    have hrel := round_rel ha.le ps.toList x F a ha (allLt_spec hps) hxl
    have hR := hround i x u hx ⟨_, hk⟩ hi
    have e1 : (rec .ready none).fn = fn := by rw [hln]
    have e2 : (rec .ready none).assign = assign := by rw [hln]
    have e3 : (rec .ready none).body = body := by rw [hln]
    rw [htm, e1, e2, e3]
    have hTR : ({ T with round := true } : Tab).ok P = true := hT
    have hround' : RoundIn (fw none) 0 P (w.heap.size + 1) fn ((ps.toList.zip x).foldl (fun t (s, v) => t.setIfInBounds s v) a.tmps) assign body u
        (RetP (fun v w' => ∃ b, v = .bool b ∧ (((b = true ∧ (I (i ++ [x]) w' ∧ w'.heap[w.heap.size + 1]? = some (.loop (rec .ready none)) ∧ w'.heap[w.heap.size]? = some (.deferred (some [])))) ∨
          (b = false ∧ ∃ c, Ix c w' ∧ w'.heap[w.heap.size + 1]? = some (.loop (rec .done (some c))) ∧ w'.heap[w.heap.size]? = some (.deferred (some [])))) ∧ Rb u w')) (fun _ _ => False)) := by
      refine roundIn_of_wpIn trivial ?_
      rw [fw_in]
      refine Code.wpIn_mono ?_ (S_sound hTR assign _ _ _ hR (some (w.heap.size + 1)) rfl _ hrel)
      intro e a1 u1 hq
      cases e <;> simp only [KS.lift, Exit.then] at hq ⊢
      case normal =>
        obtain ⟨F1, h1, _, hE, hb⟩ := hq
        have hl1 := hE.nc _ _ hl rfl
        have hk1 := hE.nc _ _ hk rfl
        refine ⟨_, run_beginRound hl1 (by rw [hln]), ?_⟩
        have hlt1 := blk_lt hl1
        have hl2 : (u1.putObj (w.heap.size + 1) (.loop { rec .ready none with state := .busy })).heap[w.heap.size + 1]? = some (.loop { rec .ready none with state := .busy }) := World.putObj_heap_same hlt1
        have hk2 : (u1.putObj (w.heap.size + 1) (.loop { rec .ready none with state := .busy })).heap[w.heap.size]? = some (.deferred (some [])) := (World.putObj_heap_other (by omega)).trans hk1
        have hqc := (Qt.of_ext (B := w.heap.size) hE).trans (Qt.put (o' := .loop { rec .ready none with state := .busy }) hl1 rfl (by omega))
        have hbody := hb _ (Qt.put (o' := .loop { rec .ready none with state := .busy }) hl1 rfl (by omega))
        refine Code.wpIn_mono ?_ (S_sound hTR body _ _ _ hbody (some (w.heap.size + 1)) rfl a1 h1)
        have fin : ∀ (jump : Option Code) (W3 : World), Rc (u1.putObj (w.heap.size + 1) (.loop { rec .ready none with state := .busy })) W3 →
            (Instr.endRound (w.heap.size + 1) jump).run P W3 = .ok (.bool jump.isNone) (W3.putObj (w.heap.size + 1) (.loop (rec (if jump.isNone then .ready else .done) jump))) ∧
            (Qt w.heap.size W3 (W3.putObj (w.heap.size + 1) (.loop (rec (if jump.isNone then .ready else .done) jump)))) ∧
            (W3.putObj (w.heap.size + 1) (.loop (rec (if jump.isNone then .ready else .done) jump))).heap[w.heap.size + 1]? = some (.loop (rec (if jump.isNone then .ready else .done) jump)) ∧
            (W3.putObj (w.heap.size + 1) (.loop (rec (if jump.isNone then .ready else .done) jump))).heap[w.heap.size]? = some (.deferred (some [])) := fun jump W3 hk3 => by
          obtain ⟨D, hk3⟩ := hRc _ _ hk3
          have hl3 := hk3.nc _ _ hl2 rfl
          have := run_endRound (P := P) jump hl3
          refine ⟨?_, Qt.put hl3 rfl (by omega), World.putObj_heap_same (blk_lt hl3), (World.putObj_heap_other (by omega)).trans (hk3.nc _ _ hk2 rfl)⟩
          rw [hrec] at this ⊢; exact this
        intro e a3 W3 hp
        cases e <;> simp only [KS.lift, roundPost] at hp ⊢
        case normal =>
          obtain ⟨_, _, _, hi3, hk3⟩ := hp
          obtain ⟨h1, h2, h3, h4⟩ := fin none W3 hk3
          exact ⟨_, _, h1, _, rfl, .inl ⟨rfl, hI _ _ _ hi3 h2, h3, h4⟩, hRb _ _ _ _ hqc hk3 h2⟩
        case exit j =>
          obtain ⟨_, _, _, hi3, hk3⟩ := hp
          obtain ⟨h1, h2, h3, h4⟩ := fin (some (.exit j)) W3 hk3
          exact ⟨_, _, h1, _, rfl, .inr ⟨rfl, _, hIx _ _ _ hi3 h2, h3, h4⟩, hRb _ _ _ _ hqc hk3 h2⟩
        case ret =>
          obtain ⟨_, _, _, hi3, hk3⟩ := hp
          obtain ⟨h1, h2, h3, h4⟩ := fin (some .ret) W3 hk3
          exact ⟨_, _, h1, _, rfl, .inr ⟨rfl, _, hIx _ _ _ hi3 h2, h3, h4⟩, hRb _ _ _ _ hqc hk3 h2⟩
        case panic c => obtain ⟨_, _, _, h⟩ := hp; exact h.elim
      case exit j => obtain ⟨_, _, _, h⟩ := hq; exact h.elim
      case ret => obtain ⟨_, _, _, h⟩ := hq; exact h.elim
      case panic c => obtain ⟨_, _, _, h⟩ := hq; exact h.elim
    exact hround'
theorem rremE {kd : IntKind} {x y z : Int} {k : Value → World → Prop} {w : World} (h0 : 0 ≤ x) (h1 : 0 < y) (hz : x % y = z) (hk : k (.int kd z) w) : RemS kd x y k w := rrem h0 h1 (hz ▸ hk)
/-- a loop that carries no slot: what it carries lies in memory -/
theorem loop0 {T : Tab} {n : Nat} (hT : T.ok P = true) (m : Nat) (keep : List Nat) (I : World → Prop) (μ : World → Nat) {body : Code} {Q : KS} {F : Nat → Value} {w : World} (hok : okB m keep [] body = true) (h0 : I w)
    (hr : ∀ g w, I w → S P T n body { Q with nrm := fun _ w' => I w' ∧ μ w' < μ w } (hdF m keep [] g F) w) : DeepS P T n (.loop body) Q F w :=
  loopL hT m keep [] (fun _ u => I u) (fun _ u => μ u) hok h0 fun vs g u hl hI => by
    have : vs = [] := List.eq_nil_of_length_eq_zero hl
    subst this
    exact hr g u hI
end
/-- blocks of X are kept -/
structure Kp (X : Nat → Prop) (u u' : World) : Prop where
  k : ∀ b o, u.heap[b]? = some o → isRec o = false → X b → u'.heap[b]? = some o
theorem Kp.of_ext {X : Nat → Prop} {u u' : World} (e : Ext u u') : Kp X u u' := ⟨fun _ _ h _ _ => e.blk' h not_false⟩
theorem Kp.of_qt {X : Nat → Prop} {B : Nat} {u u' : World} (q : Qt B u u') : Kp X u u' := ⟨fun b o h hr _ => q.block b o h (.inr hr)⟩
theorem Kp.trans {X : Nat → Prop} {a b c : World} (h : Kp X a b) (k : Kp X b c) : Kp X a c := ⟨fun i o ho hr hb => k.k i o (h.k i o ho hr hb) hr hb⟩
theorem Kp.of_fr {X : Nat → Prop} {D : Nat → Prop} {u u' : World} (f : Fr D u u') (hd : ∀ i, X i → ¬ D i) : Kp X u u' := ⟨fun b o h _ hb => f.blk' h (hd b hb)⟩
theorem Bk.kp {X : Nat → Prop} {u u' : World} {b : Nat} {cs : List Value} {e : TypeId} (k : Bk u b cs e) (h : Kp X u u') (hb : X b) : Bk u' b cs e := ⟨h.k _ _ k.h rfl hb⟩
theorem SlF.kp {α : Type} [Enc α] {X : Nat → Prop} {u u' : World} {v : Value} {l : List α} (h : SlF u v l) (k : Kp X u u') (hb : l ≠ [] → ∀ b, Value.blk v = some b → X b) : SlF u' v l := by
  obtain ⟨a, c, hv, hlc, hl⟩ := h
  refine ⟨a, c, hv, hlc, ?_⟩
  by_cases hn : l = []
  · exact .inl hn
  rcases hl with hl | ⟨b, o, ha, hA⟩
  · exact .inl hl
  · refine .inr ⟨b, o, ha, fun j v hj => ?_⟩
    have h1 := hA j v hj
    have hbb := hb hn b (by rw [hv, ha]; rfl)
    have hlt : b < u.heap.size := cell_lt h1
    obtain ⟨ob, hob⟩ : ∃ ob, u.heap[b]? = some ob := ⟨_, Array.getElem?_eq_getElem hlt⟩
    have hr : isRec ob = false := by
      unfold World.cell? at h1
      rw [hob] at h1
      cases ob <;> first | rfl | (simp at h1; done)
    have h2 := k.k b ob hob hr hbb
    unfold World.cell? at h1 ⊢
    rw [hob] at h1; rw [h2]
    exact h1
/-- the number that lies first in a block -/
def cellN (b : Nat) (u : World) : Nat := match u.cell? ⟨b, 0, none⟩ with | some (.int _ x) => x.toNat | _ => 0
theorem cellN_eq {b : Nat} {u : World} {kd : IntKind} {x : Int} {cs : List Value} {e : TypeId} (B : Bk u b (.int kd x :: cs) e) : cellN b u = x.toNat := by
  have : u.cell? ⟨b, 0, none⟩ = some (.int kd x) := B.at.cell0 rfl
  unfold cellN; rw [this]
end Go.W
