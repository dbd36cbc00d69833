/-
  Proved here: blocks that are known whole, found by their number; loads from them and stores into them; slices held against nil.
  Conditions: those that each fact names.
-/
import Derived.Test.YtgplodgpbhddbaaW13
import Derived.WalkSpells
namespace Go.W
open Go
open Enc (enc)

/-- block b, in world x, is this row -/
class Bk (x : outParam World) (b : Nat) (cs : outParam (List Value)) (e : outParam TypeId) : Prop where
  h : x.heap[b]? = some (.cells cs.toArray e (0, 0))
theorem Bk.up {x w : World} {b : Nat} {cs : List Value} {e : TypeId} (B : Bk x b cs e) [L : Le x w] : w.heap[b]? = some (.cells cs.toArray e (0, 0)) := upb (h := L) B.h
theorem Bk.at {x w : World} {b : Nat} {cs : List Value} {e : TypeId} (B : Bk x b cs e) [L : Le x w] : At w b 0 cs := by have := At.blk (upb (h := L) B.h); simpa using this
theorem Bk.lt {x : World} {b : Nat} {cs : List Value} {e : TypeId} (B : Bk x b cs e) : b < x.heap.size := blk_lt B.h
theorem Bk.fr {D : Nat → Prop} {x w : World} {b : Nat} {cs : List Value} {e : TypeId} (B : Bk x b cs e) (f : Fr D x w) (hd : ¬ D b) : Bk w b cs e := ⟨f.blk B.h hd⟩
theorem Bk.mv {x w : World} {b : Nat} {cs : List Value} {e : TypeId} (B : Bk x b cs e) [L : Le x w] : Bk w b cs e := ⟨B.up⟩
theorem Bk.qt {B : Nat} {u u' : World} {b : Nat} {cs : List Value} {e : TypeId} (h : Bk u b cs e) (q : Qt B u u') : Bk u' b cs e := ⟨blk_qt h.h q⟩

/-- a new block, the next one -/
class Nx (w : outParam World) (w' : World) (b : outParam Nat) : Prop where
  b : b = w.heap.size
  s : w'.heap.size = w.heap.size + 1
  e : Ext w w'
  g : ∃ o, w' = w.alloc o
instance Nx.stp {w w' : World} {b : Nat} [n : Nx w w' b] : Stp w w' := ⟨n.e⟩

section
variable {P : Program} {k : Value → World → Prop} {pn : List PanicEntry → World → Prop} {w : World}
theorem Nx.mk' (w : World) (o : Obj) : Nx w (w.alloc o) w.heap.size := ⟨rfl, by simp, Ext.alloc w o, o, rfl⟩
theorem rbx {e : TypeId} {v : Value} (hk : ∀ b w', Nx w w' b → Bk w' b v.cells.toList e → k (.pointer (some ⟨b, 0, none⟩)) w') : SemV P (Instr.box e v) k pn w :=
  SemV.of (v := .pointer (some ⟨w.heap.size, 0, none⟩)) (w' := w.alloc (.cells v.cells e)) (by rfl) (hk _ _ (Nx.mk' w _) ⟨by rw [heap_alloc_new]⟩)
theorem ral {e : TypeId} {z : Value} {sz by' : Nat} [he : Elem P e z sz by'] (hk : ∀ b w', Nx w w' b → Bk w' b z.cells.toList e → k (.pointer (some ⟨b, 0, none⟩)) w') : SemV P (Instr.alloc e true (.tuple #[])) k pn w := by
  obtain ⟨i, hi, hz, _, _⟩ := info_parts he.h
  exact SemV.of (v := .pointer (some ⟨w.heap.size, 0, none⟩)) (w' := w.alloc (.cells z.cells e)) (by simp [Instr.alloc, zeroValue, typeInfo, hi, hz, newVar, newRow]) (hk _ _ (Nx.mk' w _) ⟨by rw [heap_alloc_new]⟩)
/-- a load of one cell of a block that is known -/
theorem rld {t : TypeId} [ht : One P t] {x : World} {b o : Nat} {cs : List Value} {e : TypeId} [B : Bk x b cs e] [L : Le x w] {v : Value} (hv : nth cs o = some v) (hk : k v w) : SemV P (Instr.loadAt t (.pointer (some ⟨b, o, none⟩))) k pn w :=
  rload1 (by have := (Bk.at (w := w) B).cell o (v := v) (by rw [← nth_eq]; exact hv); rwa [Nat.zero_add] at this) hk
theorem rldG {t n : Nat} [ht : Agg P t n] {x : World} {b o : Nat} {cs : List Value} {e : TypeId} [B : Bk x b cs e] [L : Le x w] {ds : List Value} (hv : (cs.drop o).take n = ds) (hl : ds.length = n) (hk : k (.agg ds.toArray) w) : SemV P (Instr.loadAt t (.pointer (some ⟨b, o, none⟩))) k pn w :=
  rloadA (by have := (Bk.at (w := w) B).sub o n; rw [hv, Nat.zero_add] at this; exact this) hl hk
/-- the same for a result -/
theorem rres {t : TypeId} [ht : One P t] {x : World} {b o : Nat} {cs : List Value} {e : TypeId} [B : Bk x b cs e] [L : Le x w] {v : Value} {k : Value → Prop} (hv : nth cs o = some v) (hk : k v) : LoadR P t ⟨b, o, none⟩ k w :=
  rres1 (by have := (Bk.at (w := w) B).cell o (v := v) (by rw [← nth_eq]; exact hv); rwa [Nat.zero_add] at this) hk
theorem rresG {t n : Nat} [ht : Agg P t n] {x : World} {b : Nat} {cs : List Value} {e : TypeId} [B : Bk x b cs e] [L : Le x w] {k : Value → Prop} (hl : cs.length = n) (hk : k (.agg cs.toArray)) : LoadR P t ⟨b, 0, none⟩ k w :=
  rresA (Bk.at B) hl hk
/-- a store into a block that is known; whole, or one cell of it -/
theorem rsto {t : TypeId} {n : Nat} [ht : Size P t n] {x : World} {b off : Nat} {cs : List Value} {e : TypeId} [B : Bk x b cs e] [L : Le x w] {v : Value} {vs : List Value} (hv : v.cells.toList = vs) (hn : vs.length = n) (hfit : Nat.ble (off + n) cs.length = true) (h1 : ∀ u ∈ vs, u.oneCell' = true)
    (hk : ∀ w', Bk w' b (splice cs off vs) e → Fr (fun i => i = b) w w' → w'.heap.size = w.heap.size → k undef w') : SemU P (Instr.storeAt t (.pointer (some ⟨b, off, none⟩)) v) k pn w :=
  rst (Bk.up B) hv hn (by have := Nat.le_of_ble_eq_true hfit; simpa using this) h1 fun w' a f s => hk w' ⟨by simpa using a⟩ f s
theorem Fr.one {w w' u : World} {b : Nat} (f : Fr (fun i => i = b) w w') (h : u.heap.size ≤ b) : Stw u w w' := f.stw fun _ hi => hi ▸ h
theorem Nx.lo {w w' u : World} {b : Nat} (n : Nx w w' b) [L : Le u w] : u.heap.size ≤ b := by rw [n.b]; exact L.e.size

theorem eqGuard_sl (op : BinOp) (t : TypeId) (x y : Operand) (a b : Option Addr) (n m c d : Nat) (w : World) : (eqGuard op t x y (.slice a n c) (.slice b m d)).run P w = .ok () w := by
  cases op <;> rfl
theorem run_equalIn_sl0 (d : Nat) {t e : TypeId} (ht : P.underlying t = some (.slice e)) (a : Option Addr) (n c : Nat) (w : World) : (Op.equalIn (d + 1) t (.slice a n c) (.slice none 0 0)).run P w = .ok a.isNone w := by
  cases a <;> simp [Op.equalIn, run_underlying ht]
theorem rsnil {t e : TypeId} [ht : SlT P t e] {x y : Operand} {a : Option Addr} {n c : Nat} (h1 : a = none → k (.bool true) w) (h2 : a ≠ none → k (.bool false) w) : SemV P (do eqGuard .eql t x y (.slice a n c) (.slice none 0 0); binOp .eql t (.slice a n c) (.slice none 0 0)) k pn w := by
  refine run_two (p := a = none) a.isNone ?_ (by cases a <;> simp) h1 h2
  rw [Sem.run_bind, eqGuard_sl, Result.andThen_ok]
  simp only [binOp]
  rw [Sem.run_bind, show (Op.equal t (.slice a n c) (.slice none 0 0)).run P w = .ok a.isNone w from run_equalIn_sl0 9999 ht.h a n c w]; rfl
end
end Go.W
namespace Go.W
open Go
section
variable {P : Program}
theorem leave1 {rs : List ResultVar} {F : Nat → Value} {D : Nat} {args : Array Value} {R : Value → World → Prop} {pn : List PanicEntry → World → Prop} {u : World} (hD : u.heap[D]? = some (.deferred (some [])))
    (h : ∀ u', (∀ B, B ≤ D → Qt B u u') → resS P rs [] F R u') : LeaveS P rs F [{ target := .collected D, args }] .returning R pn u :=
  leave_mark (by intro h; cases h) hD (leave_ret (h _ fun B hB => Qt.put hD rfl hB))
end
/-- those of the first n for which q holds -/
def selN (q : Nat → Bool) (n : Nat) : List Nat := (List.range n).filter q
theorem selN_succ (q : Nat → Bool) (n : Nat) : selN q (n + 1) = if q n then selN q n ++ [n] else selN q n := by
  unfold selN; rw [List.range_succ, List.filter_append]; cases h : q n <;> simp [h]
theorem selN_at {q : Nat → Bool} {n k : Nat} (hk : k < n) (hq : q k = true) : (selN q n)[(selN q k).length]? = some k := by
  induction n with
  | zero => omega
  | succ n ih =>
    rw [selN_succ]
    rcases Nat.lt_or_ge k n with h | h
    · have := ih h
      split
      · rw [List.getElem?_append_left (List.getElem?_eq_some_iff.1 this).1]; exact this
      · exact this
    · obtain rfl : k = n := by omega
      rw [if_pos hq]; simp
theorem selN_mem {q : Nat → Bool} {n k : Nat} : k ∈ selN q n ↔ k < n ∧ q k = true := by simp [selN]
theorem selN_le (q : Nat → Bool) (n : Nat) : (selN q n).length ≤ n := by unfold selN; exact Nat.le_trans (List.length_filter_le _ _) (by simp)
end Go.W
namespace Go.W
open Go
section
variable {P : Program} {T : Tab} {n : Nat}
/-- a loop that counts: one counter, from 0 -/
theorem cnt (hT : T.ok P = true) (m : Nat) (keep : List Nat) (s : Nat) (N : Nat) (I : Nat → World → Prop) {body : Code} {Q : KS} {F : Nat → Value} {w : World}
    (hok : okB m keep [s] body = true) (hs : F s = .int .i64 0) (h0 : I 0 w)
    (hr : ∀ (k : Nat) g w, k ≤ N → I k w → S P T n body { Q with nrm := fun F' w' => F' s = .int .i64 ((k : Int) + 1) ∧ k < N ∧ I (k + 1) w' } (hdF m keep [(s, .int .i64 k)] g F) w) : DeepS P T n (.loop body) Q F w := by
  refine loop1 hT m keep s (fun v w => ∃ k : Nat, k ≤ N ∧ v = .int .i64 k ∧ I k w) (fun v _ => N - (Go.RowKit.intOf v).toNat) hok ⟨0, by omega, hs, h0⟩ ?_
  rintro v g w ⟨k, hk, rfl, hi⟩
  refine S_mono _ _ _ _ _ (hr k g w hk hi) ?_ (fun _ _ _ _ h => h) (fun _ _ _ h => h) (fun _ _ _ _ h => h)
  intro G w' _ h
  obtain ⟨h1, h2, h3⟩ := h
  refine ⟨⟨k + 1, h2, h1, h3⟩, ?_⟩
  show N - (Go.RowKit.intOf (G s)).toNat < N - _
  rw [h1]
  show N - ((k : Int) + 1).toNat < N - ((k : Int)).toNat
  omega
theorem cnt1 (hT : T.ok P = true) (m : Nat) (keep : List Nat) (s1 s : Nat) (N : Nat) (I : Nat → Value → World → Prop) {body : Code} {Q : KS} {F : Nat → Value} {w : World}
    (hok : okB m keep [s1, s] body = true) (hs : F s = .int .i64 0) (h0 : I 0 (F s1) w)
    (hr : ∀ (k : Nat) v1 g w, k ≤ N → I k v1 w → S P T n body { Q with nrm := fun F' w' => F' s = .int .i64 ((k : Int) + 1) ∧ k < N ∧ I (k + 1) (F' s1) w' } (hdF m keep [(s1, v1), (s, .int .i64 k)] g F) w) : DeepS P T n (.loop body) Q F w := by
  refine loop2 hT m keep s1 s (fun v1 v w => ∃ k : Nat, k ≤ N ∧ v = .int .i64 k ∧ I k v1 w) (fun _ v _ => N - (Go.RowKit.intOf v).toNat) hok ⟨0, by omega, hs, h0⟩ ?_
  rintro v1 v g w ⟨k, hk, rfl, hi⟩
  refine S_mono _ _ _ _ _ (hr k v1 g w hk hi) ?_ (fun _ _ _ _ h => h) (fun _ _ _ h => h) (fun _ _ _ _ h => h)
  intro G w' _ h
  obtain ⟨h1, h2, h3⟩ := h
  refine ⟨⟨k + 1, h2, h1, h3⟩, ?_⟩
  show N - (Go.RowKit.intOf (G s)).toNat < N - _
  rw [h1]
  show N - ((k : Int) + 1).toNat < N - ((k : Int)).toNat
  omega
theorem cnt2 (hT : T.ok P = true) (m : Nat) (keep : List Nat) (s1 s2 s : Nat) (N : Nat) (I : Nat → Value → Value → World → Prop) {body : Code} {Q : KS} {F : Nat → Value} {w : World}
    (hok : okB m keep [s1, s2, s] body = true) (hs : F s = .int .i64 0) (h0 : I 0 (F s1) (F s2) w)
    (hr : ∀ (k : Nat) v1 v2 g w, k ≤ N → I k v1 v2 w → S P T n body { Q with nrm := fun F' w' => F' s = .int .i64 ((k : Int) + 1) ∧ k < N ∧ I (k + 1) (F' s1) (F' s2) w' } (hdF m keep [(s1, v1), (s2, v2), (s, .int .i64 k)] g F) w) : DeepS P T n (.loop body) Q F w := by
  refine loop3 hT m keep s1 s2 s (fun v1 v2 v w => ∃ k : Nat, k ≤ N ∧ v = .int .i64 k ∧ I k v1 v2 w) (fun _ _ v _ => N - (Go.RowKit.intOf v).toNat) hok ⟨0, by omega, hs, h0⟩ ?_
  rintro v1 v2 v g w ⟨k, hk, rfl, hi⟩
  refine S_mono _ _ _ _ _ (hr k v1 v2 g w hk hi) ?_ (fun _ _ _ _ h => h) (fun _ _ _ h => h) (fun _ _ _ _ h => h)
  intro G w' _ h
  obtain ⟨h1, h2, h3⟩ := h
  refine ⟨⟨k + 1, h2, h1, h3⟩, ?_⟩
  show N - (Go.RowKit.intOf (G s)).toNat < N - _
  rw [h1]
  show N - ((k : Int) + 1).toNat < N - ((k : Int)).toNat
  omega
end
theorem take_add {α : Type} {l : List α} {k : Nat} (h : k < l.length) : l.take (k + 1) = l.take k ++ [l[k]] := List.take_succ_eq_append_getElem h
end Go.W
namespace Go.W
open Go
section
variable {P : Program} {w : World}
theorem tld {t : TypeId} [ht : One P t] {x : World} {b o : Nat} {cs : List Value} {e : TypeId} [B : Bk x b cs e] [L : Le x w] {D : Nat → Prop} {k : Value → Prop} {v : Value} (hv : nth cs o = some v) (hd : ¬ D b) (hk : k v) : TakeS P (Instr.loadAt t (.pointer (some ⟨b, o, none⟩))) D k w :=
  tload1 (by have := (Bk.at (w := w) B).cell o (v := v) (by rw [← nth_eq]; exact hv); rwa [Nat.zero_add] at this) hd hk
theorem tldG {t n : Nat} [ht : Agg P t n] {x : World} {b o : Nat} {cs : List Value} {e : TypeId} [B : Bk x b cs e] [L : Le x w] {D : Nat → Prop} {k : Value → Prop} {ds : List Value} (hv : (cs.drop o).take n = ds) (hl : ds.length = n) (hd : ¬ D b) (hk : k (.agg ds.toArray)) : TakeS P (Instr.loadAt t (.pointer (some ⟨b, o, none⟩))) D k w :=
  tloadA (by have := (Bk.at (w := w) B).sub o n; rw [hv, Nat.zero_add] at this; exact this) hl hd hk
theorem Sp.tt {f : FuncId} {args : Array Value} {p : Prop} (h : Sp P f args w fun v w' => Tells p v ∧ Stp w w') (hp : p) : Sp P f args w fun v w' => v = .bool true ∧ Stp w w' :=
  h.mono fun v w' hv => by
    rcases hv with ⟨⟨h1, _⟩ | ⟨_, h1⟩, e⟩
    · exact ⟨h1, e⟩
    · exact absurd hp h1
theorem Sp.ff {f : FuncId} {args : Array Value} {p : Prop} (h : Sp P f args w fun v w' => Tells p v ∧ Stp w w') (hp : ¬ p) : Sp P f args w fun v w' => v = .bool false ∧ Stp w w' :=
  h.mono fun v w' hv => by
    rcases hv with ⟨⟨_, h1⟩ | ⟨h1, _⟩, e⟩
    · exact absurd h1 hp
    · exact ⟨h1, e⟩
end
section
variable {α : Type} [Enc α]
theorem Own.shape {B : Nat} {e : TypeId} {w : World} {v : Value} {l : List α} (h : Own B e w v l) : ∃ a c, v = .slice a l.length c := h.sl.shape
/-- a row is kept by a store into a block of another kind -/
theorem Own.frc {B : Nat} {e e' : TypeId} {w w' : World} {v : Value} {l : List α} {b : Nat} {cs : List Value} (h : Own B e w v l) (f : Fr (fun i => i = b) w w') (k : Bk w b cs e') (hne : e ≠ e') : Own B e w' v l := by
  rcases h with h | h
  · exact .inl h
  · refine .inr ⟨h.1, ?_⟩
    rcases h.2 with hn | ⟨g, cap, cur, rfl, hb, hg, rest⟩
    · exact .inl hn
    · refine .inr ⟨g, cap, cur, rfl, hb, f.blk hg ?_, rest⟩
      rintro rfl
      have := k.h; rw [hg] at this; cases this; exact hne rfl
/-- a block of another kind is kept when a row is written -/
theorem Bk.fro {B : Nat} {e e' : TypeId} {w w' : World} {v : Value} {l : List α} {b : Nat} {cs : List Value} (k : Bk w b cs e') (h : Own B e w v l) (f : Fr (ownD B v) w w') (hne : e ≠ e') : Bk w' b cs e' := by
  refine k.fr f fun hd => ?_
  rcases h with ⟨_, a, rfl⟩ | h
  · exact hd.2.2 a rfl
  · rcases h.2 with ⟨rfl, _⟩ | ⟨g, cap, cur, rfl, _, hg, _⟩
    · cases hd.2.1
    · have h2 := hd.2.1
      simp only [Value.blk] at h2; cases h2
      have := k.h; rw [hg] at this; cases this; exact hne rfl
/-- two rows of different kinds -/
theorem Own.fro {β : Type} [Enc β] {B B' : Nat} {e e' : TypeId} {w w' : World} {v v' : Value} {l : List α} {l' : List β} (h : Own B e w v l) (k : Own B' e' w v' l') (f : Fr (ownD B' v') w w') (hne : e ≠ e') : Own B e w' v l := by
  rcases h with h | h
  · exact .inl h
  · refine .inr ⟨h.1, ?_⟩
    rcases h.2 with hn | ⟨g, cap, cur, rfl, hb, hg, rest⟩
    · exact .inl hn
    · refine .inr ⟨g, cap, cur, rfl, hb, f.blk hg fun hd => ?_, rest⟩
      rcases k with ⟨_, a, rfl⟩ | k
      · exact hd.2.2 a rfl
      · rcases k.2 with ⟨rfl, _⟩ | ⟨g', cap', cur', rfl, _, hg', _⟩
        · cases hd.2.1
        · have h2 := hd.2.1
          simp only [Value.blk] at h2; cases h2
          rw [hg] at hg'; cases hg'; exact hne rfl
end
theorem sel_idx {q : Nat → Bool} {n i k : Nat} (h : (selN q n)[i]? = some k) : k < n ∧ q k = true ∧ i = (selN q k).length := by
  have hm := List.mem_of_getElem? h
  obtain ⟨hk, hq⟩ := selN_mem.1 hm
  refine ⟨hk, hq, ?_⟩
  have h1 := selN_at hk hq
  have hnd : (selN q n).Nodup := (List.nodup_range).filter _
  exact (List.getElem?_inj (List.getElem?_eq_some_iff.1 h).1 hnd).1 (by rw [h, h1])
theorem sel_pos {q : Nat → Bool} {j k : Nat} (hj : j < k) (hq : q j = true) : (selN q j).length < (selN q k).length := (List.getElem?_eq_some_iff.1 (selN_at hj hq)).1
end Go.W
