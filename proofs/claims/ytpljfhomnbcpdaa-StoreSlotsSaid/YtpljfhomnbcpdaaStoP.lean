/-
  Proved here: stores of the program: made, put into (contracts).
  Conditions: the store lies in memory as is said at each.
-/
import Derived.Test.YtpljfhomnbcpdaaStoL
import Derived.Test.YtpljfhomnbcpdaaTabW
import Derived.Test.YtpljfhomnbcpdaaPool3
import Derived.Test.YtpljfhomnbcpdaaW26
namespace Go.W
open Go Go.Proofs
open Enc (enc)
set_option maxRecDepth 10000

instance : Enc StD := ⟨4, fun x => [.int .i64 x.key.slot, .int .i64 x.key.dir, .int .i64 x.key.v, .int .i64 x.d], fun _ => rfl, by intro x u hu; simp at hu; rcases hu with rfl | rfl | rfl | rfl <;> rfl, by decide⟩

theorem store_may_sp {x : StD} {w : World} : Sp Try.prog F.store_may #[agg x] w fun v w' => v = .int .i64 (if mayX x then 0 else 1) ∧ Stp w w' := by
  refine en TBok rfl ?_
  refine rbx fun b w1 n1 B1 => ?_
  refine rcall (table_New_sp (most := 1) (w := w1)) ?_
  rintro v w2 ⟨⟨h, _⟩ | ⟨N, bt, ta, tc, hN, _, _, rfl, T⟩, e2⟩
  · omega
  have q_ : N = 1 := by omega
  obtain rfl := q_
  refine ite (fun _ => ?_) (fun h => absurd rfl h)
  refine rldG (ds := enc x.key) (B := B1) rfl rfl ?_
  refine rcall (Put_spT (k := x.key) (n := 0) T) ?_
  rintro v w3 ⟨rfl, T3, f3⟩
  have s3 : Stp w1 w3 := ⟨FrT.st Le.e f3 (Nat.le_refl _)⟩
  have hp : (putTS 1 zTS x.key 0).2 = if mayK x.key then 0 else 1 := by
    unfold putTS; split
    · rfl
    · rfl
  rw [hp]
  refine rld (B := B1) rfl ?_
  refine ite (fun h1 => ?_) (fun h1 => ?_)
  · rw [if_neg (fun h : mayX x => by have := h.2.1; omega)]; exact ⟨rfl, stp⟩
  refine rld (B := B1) rfl ?_
  refine ite (fun h2 => ?_) (fun h2 => ?_)
  · rw [if_neg (fun h : mayX x => by have := h.2.2; omega)]; exact ⟨rfl, stp⟩
  · refine ⟨?_, stp⟩
    by_cases hk : mayK x.key
    · rw [if_pos hk, if_pos ⟨hk, by omega, by omega⟩]; rfl
    · rw [if_neg hk, if_neg (fun h : mayX x => hk h.1)]; rfl
theorem store_there_sp {sv : Value} {x : StD} {w : World} : Sp Try.prog F.store_Store_there #[sv, agg x] w fun v w' => v = .int .i64 (if mayX x then 150 else 1) ∧ Stp w w' := by
  refine en TBok rfl ?_
  refine rbx fun b w1 n1 B1 => ?_
  refine rldG (ds := enc x) (B := B1) rfl rfl ?_
  have M := store_may_sp (x := x) (w := w1)
  by_cases hm : mayX x
  · rw [if_pos hm] at M ⊢
    refine rcall M ?_
    rintro v w2 ⟨rfl, e2⟩
    refine ite (fun h => absurd rfl h) (fun _ => ?_)
    exact ⟨rfl, stp⟩
  · rw [if_neg hm] at M ⊢
    refine rcall M ?_
    rintro v w2 ⟨rfl, e2⟩
    refine ite (fun _ => ?_) (fun h => absurd (by first | omega | decide | (dsimp only <;> omega)) h)
    exact ⟨rfl, stp⟩

/-! a store in memory -/
structure StoH (B : Nat) (w : World) (b gs size bt : Nat) (ta : Option Addr) (tc : Nat) (ts : TS) (fa : Option Addr) (fc : Nat) (fr : List Int) (sc : Nat) (st : List StD) (bm : Nat) (m : List (Int × Value)) (ch : Int → List Int) : Prop where
  lo : B ≤ b ∧ B ≤ bm ∧ B ≤ gs
  cell : Bk w b [.pointer (some ⟨bt, 0, none⟩), .int .i64 size, .slice fa fr.length fc, .slice (some ⟨gs, 0, none⟩) size sc, .map (some bm)] E.store_Store
  tab : TabS B w bt ta tc size ts
  free : SlY E.int w (.slice fa fr.length fc) fr
  sts : Own B E.api_State w (.slice (some ⟨gs, 0, none⟩) size sc) st
  map : MapL Try.prog E.int w bm m
  rows : ∀ s v, (s, v) ∈ m → Own B E.int w v (ch s) ∧ ch s ≠ []
  empt : ∀ s, s ∉ m.map (·.1) → ch s = []
  apart : ∀ s v s' v', (s, v) ∈ m → (s', v') ∈ m → s ≠ s' → ∀ g, Value.blk v = some g → Value.blk v' ≠ some g
  apart2 : fr ≠ [] → ∀ s v, (s, v) ∈ m → ∀ g, Value.blk v = some g → Value.blk (.slice fa fr.length fc) ≠ some g
/-- the store tells this -/
def StoP (B : Nat) (w : World) (b gs size : Nat) (L : List StD) : Prop :=
  ∃ bt ta tc ts fa fc fr sc st bm m ch, StoH B w b gs size bt ta tc ts fa fc fr sc st bm m ch ∧ StoT size ts fr st ∧ StoM fr st L ∧ ChI fr st ch
abbrev psE : List TypeId := [E.store_Store, E.table_Table, E.table_place, E.int, mapK]
abbrev FrS (gs B : Nat) (w w' : World) : Prop := FrX (fun i => i = gs) B psE w w'
section
variable {B C : Nat} {w w' : World} {b gs size bt : Nat} {ta : Option Addr} {tc : Nat} {ts : TS} {fa : Option Addr} {fc : Nat} {fr : List Int} {sc : Nat} {st : List StD} {bm : Nat} {m : List (Int × Value)} {ch : Int → List Int} {es : List TypeId} {L : List StD}
theorem StoH.up [Le w w'] (h : StoH B w b gs size bt ta tc ts fa fc fr sc st bm m ch) : StoH B w' b gs size bt ta tc ts fa fc fr sc st bm m ch :=
  ⟨h.lo, h.cell.mv, h.tab.up, h.free.up, h.sts.up, h.map.up, fun s v hv => ⟨(h.rows s v hv).1.up, (h.rows s v hv).2⟩, h.empt, h.apart, h.apart2⟩
theorem StoH.kept (h : StoH B w b gs size bt ta tc ts fa fc fr sc st bm m ch) (f : FrT C es w w') (he : ∀ e ∈ (E.api_State :: psE), e ∉ es) : StoH B w' b gs size bt ta tc ts fa fc fr sc st bm m ch :=
  ⟨h.lo, h.cell.kept f (he _ (by decide)), h.tab.kept f (he _ (by decide)) (he _ (by decide)), h.free.kept f (he _ (by decide)), h.sts.kept f (he _ (by decide)), h.map.kept f (he _ (by decide)), fun s v hv => ⟨(h.rows s v hv).1.kept f (he _ (by decide)), (h.rows s v hv).2⟩, h.empt, h.apart, h.apart2⟩
theorem StoP.up [Le w w'] (h : StoP B w b gs size L) : StoP B w' b gs size L := by
  obtain ⟨bt, ta, tc, ts, fa, fc, fr, sc, st, bm, m, ch, h, r⟩ := h
  exact ⟨bt, ta, tc, ts, fa, fc, fr, sc, st, bm, m, ch, h.up, r⟩
theorem StoP.kept (h : StoP B w b gs size L) (f : FrT C es w w') (he : ∀ e ∈ (E.api_State :: psE), e ∉ es) : StoP B w' b gs size L := by
  obtain ⟨bt, ta, tc, ts, fa, fc, fr, sc, st, bm, m, ch, h, r⟩ := h
  exact ⟨bt, ta, tc, ts, fa, fc, fr, sc, st, bm, m, ch, h.kept f he, r⟩
/-- the places of a slot -/
theorem StoH.look (h : StoH B w b gs size bt ta tc ts fa fc fr sc st bm m ch) (s : Int) : Own B E.int w ((getM m s).getD (.slice none 0 0)) (ch s) ∧
    (∀ g, Value.blk ((getM m s).getD (.slice none 0 0)) = some g → ∃ v, (s, v) ∈ m ∧ Value.blk v = some g) := by
  cases hg : getM m s with
  | none =>
    have hc := h.empt s (getM_none.1 hg)
    rw [hc]
    exact ⟨Own.nil _ _ _, fun g hg => by cases hg⟩
  | some v => exact ⟨(h.rows s v (getM_mem hg)).1, fun g hgg => ⟨v, getM_mem hg, hgg⟩⟩
end
theorem StoP.lt {B : Nat} {w : World} {b gs size : Nat} {L : List StD} (h : StoP B w b gs size L) : B ≤ b ∧ b < w.heap.size ∧ B ≤ gs ∧ L.length ≤ size ∧ SRis L ∧ 1 ≤ size ∧ size ≤ 400 := by
  obtain ⟨bt, ta, tc, ts, fa, fc, fr, sc, st, bm, m, ch, h, T, M, C⟩ := h
  have h1 := T.len M
  have h2 := T.cnt
  have h3 := T.ok
  exact ⟨h.lo.1, h.cell.lt, h.lo.2.2, by omega, M.ris, by have := h3.1; omega, by have := h3.2.1; omega⟩

theorem newP_ok {n : Int} (h : ¬ (n < 1 ∨ 400 < n)) : newP n = ((n, downTo n.toNat), 0) ∧ okP n (downTo n.toNat) ∧ (downTo n.toNat).length = n.toNat ∧ ∀ p : Nat, (p : Int) < n → (p : Int) ∈ downTo n.toNat := by
  refine ⟨by unfold newP; rw [if_neg h], ⟨by omega, by omega, fun x hx => ?_, ?_⟩, downTo_len _, fun p hp => ?_⟩
  · unfold downTo at hx
    simp only [List.mem_map, List.mem_reverse, List.mem_range] at hx
    obtain ⟨k, hk, rfl⟩ := hx; omega
  · unfold downTo
    rw [List.nodup_iff_pairwise_ne, List.pairwise_map]
    rw [List.pairwise_reverse]
    have := List.nodup_range (n := n.toNat)
    rw [List.nodup_iff_pairwise_ne] at this
    exact this.imp fun {a b} h e => h (by omega)
  · unfold downTo
    simp only [List.mem_map, List.mem_reverse, List.mem_range]
    exact ⟨p, by omega, rfl⟩
theorem store_New_sp {size : Int} {w : World} : Sp Try.prog F.store_New #[.int .i64 size] w fun v w' =>
    ((size < 1 ∨ 400 < size) ∧ v = .tuple #[.pointer none, .int .i64 1] ∨ ∃ (N b gs : Nat), size = (N : Int) ∧ 1 ≤ N ∧ N ≤ 400 ∧ v = .tuple #[.pointer (some ⟨b, 0, none⟩), .int .i64 0] ∧ StoP w.heap.size w' b gs N [] ∧ gs < w'.heap.size) ∧ Stp w w' := by
  refine en TBok rfl ?_
  refine rcall (pool_New_sp (size := size) (w := w)) ?_
  rintro v w1 ⟨⟨pv, rfl, a1, c1, rfl, O1⟩, e1⟩
  refine ral fun b2 w2 n2 z2 => ?_
  refine rsto (B := z2) (vs := [.int .i64 (newP size).1.1, .slice a1 (newP size).1.2.length c1]) rfl rfl rfl (pl_one _ _ _ _) fun w3 B3 f3 _ => ?_
  have s3 : Stp w1 w3 := ⟨Fr.st Le.e f3 fun i hi => by subst hi; exact n2.lo⟩
  clear z2 f3
  by_cases hs : size < 1 ∨ 400 < size
  · have hp : (newP size).2 = 1 := by unfold newP; rw [if_pos hs]
    rw [hp]
    refine ite (fun _ => ?_) (fun h => absurd (by first | omega | decide | (dsimp only <;> omega)) h)
    exact ⟨.inl ⟨hs, rfl⟩, stp⟩
  have q_ := newP_ok hs
  obtain ⟨hp, hok, hdl, hall⟩ := q_
  rw [hp] at O1 B3 ⊢
  refine ite (fun h => absurd rfl h) (fun _ => ?_)
  refine rcall (table_New_sp (most := size) (w := w3)) ?_
  rintro v w4 ⟨⟨h, _⟩ | ⟨N, bt, ta, tc, rfl, hN1, hN2, rfl, T⟩, e4⟩
  · exact absurd h hs
  refine ite (fun h => absurd rfl h) (fun _ => ?_)
  have fin : ∀ (u : World) (gs sc b bm : Nat), Stp w u → StoP w.heap.size u b gs N [] → gs < u.heap.size → ((((N : Int) < 1 ∨ 400 < (N : Int)) ∧ Value.tuple #[.pointer (some ⟨b, 0, none⟩), .int .i64 0] = .tuple #[.pointer none, .int .i64 1] ∨ ∃ (N' b' gs' : Nat), (N : Int) = (N' : Int) ∧ 1 ≤ N' ∧ N' ≤ 400 ∧ Value.tuple #[.pointer (some ⟨b, 0, none⟩), .int .i64 0] = .tuple #[.pointer (some ⟨b', 0, none⟩), .int .i64 0] ∧ StoP w.heap.size u b' gs' N' [] ∧ gs' < u.heap.size) ∧ Stp w u) :=
    fun u gs sc b bm s P hg => ⟨.inr ⟨N, b, gs, rfl, hN1, hN2, rfl, P, hg⟩, s⟩
  have O4 := O1.up (w' := w4)
  have T0 : StoT N zTS (downTo N) (List.replicate N zSt) := by
    refine ⟨hok, by simp, fun k n => Iff.intro (fun h => (by cases h)) (fun ⟨p, _, h1, x, h2, _⟩ => absurd (hall p ?_) h1), ?_⟩
    · have := (List.getElem?_eq_some_iff.1 h2).1
      simp at this; omega
    · show 0 + (downTo N).length = N
      rw [downTo_len]; omega
  have M0 : StoM (downTo N) (List.replicate N zSt) [] := ⟨.nil, fun x => Iff.intro (fun h => (by cases h)) (fun ⟨p, h1, h2⟩ => absurd (hall p (by have := (List.getElem?_eq_some_iff.1 h2).1; simp at this; omega)) h1)⟩
  have C0 : ChI (downTo N) (List.replicate N zSt) (fun _ => []) := fun s => ⟨by simp, fun n => Iff.intro (fun h => (by cases h)) (fun ⟨p, _, h1, x, h2, _⟩ => absurd (hall p (by have := (List.getElem?_eq_some_iff.1 h2).1; simp at this; omega)) h1)⟩
  have mk : ∀ (u : World) (gs sc b bm : Nat), w.heap.size ≤ b → w.heap.size ≤ bm → w.heap.size ≤ gs → Le w4 u → Bk u b [.pointer (some ⟨bt, 0, none⟩), .int .i64 N, .slice a1 (downTo N).length c1, .slice (some ⟨gs, 0, none⟩) N sc, .map (some bm)] E.store_Store → Own w.heap.size E.api_State u (.slice (some ⟨gs, 0, none⟩) N sc) (List.replicate N zSt) → MapL Try.prog E.int u bm ([] : List (Int × Value)) → StoP w.heap.size u b gs N [] := by
    intro u gs sc b bm h1 h2 h3 L CB OS MB
    refine ⟨bt, ta, tc, zTS, a1, c1, downTo N, sc, List.replicate N zSt, bm, [], fun _ => [], ⟨⟨h1, h2, h3⟩, CB, ?_, (O4.up (w' := u)).y, OS, MB, (fun s v h => (by cases h)), fun _ _ => rfl, (fun s v s' v' h => (by cases h)), (fun _ s v h => (by cases h))⟩, T0, M0, C0⟩
    have := T.up (w' := u)
    obtain ⟨g0, R, H, r⟩ := this
    exact ⟨Nat.le_trans (Le.size (a := w) (b := w3)) g0, R, ⟨H.cell, H.row.mono (Le.size (a := w) (b := w3)), H.len, H.tab, H.bnd, H.may, H.zero⟩, r⟩
  have Z : (Value.agg #[Value.int IntKind.i64 0, Value.int IntKind.i64 0, Value.int IntKind.i64 0, Value.int IntKind.i64 0]).cells.toList = enc zSt := rfl
  refine drawRT TBok mixed (fun _ => False) (.one 0 (.one 1 (.one 2 (.two 3 (.one 4 (.one 5 (.one 6 (.one 7 (.one 8 .nil))))) 4 (.one 3 (.one 5 (.one 6 (.one 7 (.one 8 .nil))))))))) (by kernel_rfl) fun u5 e5 _ => ?_
  refine tldG (ds := [.int .i64 (N : Nat), .slice a1 (downTo N).length c1]) (B := B3) rfl rfl not_false ?_
  refine ⟨?_, ?_⟩
  · refine rmk zSt rfl rfl (by omega) fun gs u6 O6 s6 hg => ⟨s6.e, ?_⟩
    refine rmkN (kt := E.int) (κ := Int) rfl fun bm u7 n7 M7 => ⟨n7.e, ?_⟩
    refine tbuild (cs := [.pointer (some ⟨bt, 0, none⟩), .int .i64 (N : Nat), .slice a1 (downTo N).length c1, .slice (some ⟨gs, 0, none⟩) N N, .map (some bm)]) rfl ?_
    refine rbx fun b u8 n8 B8 => ⟨n8.e, ?_⟩
    have hw5 : w.heap.size ≤ u5.heap.size := Le.size
    refine fin u8 gs N b bm stp (mk u8 gs N b bm n8.lo n7.lo (by omega) inferInstance B8 (O6.up.mono hw5) M7.up) ?_
    have := O6.lt (by intro h; have := congrArg List.length h; simp at this; omega)
    obtain ⟨g, hg', _, hlt⟩ := this
    have hge : gs = g := Option.some.inj hg'
    have := Le.size (a := u6) (b := u8); omega
  · refine rmkN (kt := E.int) (κ := Int) rfl fun bm u7 n7 M7 => ⟨n7.e, ?_⟩
    refine rmk zSt rfl rfl (by omega) fun gs u6 O6 s6 hg => ⟨s6.e, ?_⟩
    refine tbuild (cs := [.pointer (some ⟨bt, 0, none⟩), .int .i64 (N : Nat), .slice a1 (downTo N).length c1, .slice (some ⟨gs, 0, none⟩) N N, .map (some bm)]) rfl ?_
    refine rbx fun b u8 n8 B8 => ⟨n8.e, ?_⟩
    have hw5 : w.heap.size ≤ u7.heap.size := Le.size
    refine fin u8 gs N b bm stp (mk u8 gs N b bm n8.lo n7.lo (by omega) inferInstance B8 (O6.up.mono hw5) M7.up) ?_
    have := O6.lt (by intro h; have := congrArg List.length h; simp at this; omega)
    obtain ⟨g, hg', _, hlt⟩ := this
    have hge : gs = g := Option.some.inj hg'
    have := Le.size (a := u6) (b := u8); omega

theorem mem_getM {κ : Type} [DecidableEq κ] {m : List (κ × Value)} (hn : (m.map (·.1)).Nodup) {k : κ} {v : Value} : (k, v) ∈ m ↔ getM m k = some v := ⟨getM_of_mem hn, getM_mem⟩
theorem mem_setM {κ : Type} [DecidableEq κ] {m : List (κ × Value)} (hn : (m.map (·.1)).Nodup) {k s : κ} {v v' : Value} : (s, v) ∈ setM k v' m ↔ (s = k ∧ v = v') ∨ (s ≠ k ∧ (s, v) ∈ m) := by
  rw [mem_getM (setM_nodup k v' m hn), getM_set, mem_getM hn]
  by_cases e : s = k
  · rw [if_pos e]; simp [e]; exact eq_comm
  · rw [if_neg e]; simp [e]
theorem mem_delM {κ : Type} [DecidableEq κ] {m : List (κ × Value)} (hn : (m.map (·.1)).Nodup) {k s : κ} {v : Value} : (s, v) ∈ delM k m ↔ s ≠ k ∧ (s, v) ∈ m := by
  rw [mem_getM (delM_nodup k hn), getM_del k s m hn, mem_getM hn]
  by_cases e : s = k
  · rw [if_pos e]; simp [e]
  · rw [if_neg e]; simp [e]
theorem MapL.frO {α : Type} [Enc α] {kt : TypeId} {κ : Type} [DecidableEq κ] [MKey Try.prog kt κ] {B C : Nat} {e : TypeId} {w w' : World} {v : Value} {l : List α} {bm : Nat} {m : List (κ × Value)} (h : MapL Try.prog kt w bm m) (O : Own C e w v l) (f : Fr (ownD B v) w w') : MapL Try.prog kt w' bm m := by
  refine h.fr f fun hd => ?_
  rcases O with ⟨_, a, e⟩ | hO
  · exact hd.2.2 a e
  · have q_ := hO.2
    rcases q_ with ⟨e, _⟩ | ⟨g, cap, cur, e, _, hg, _⟩
    · rw [e] at hd; cases hd.2.1
    · have h2 := hd.2.1
      rw [e] at h2
      simp only [Value.blk] at h2; cases h2
      obtain ⟨⟨es, c, h3, _⟩, _⟩ := h
      rw [hg] at h3; cases h3
/-- one more stands in a slot's row -/
theorem StoH.chain {B : Nat} {w u : World} {b gs size bt : Nat} {ta : Option Addr} {tc : Nat} {ts : TS} {fa : Option Addr} {fc : Nat} {fr : List Int} {sc : Nat} {st : List StD} {bm : Nat} {m : List (Int × Value)} {ch : Int → List Int} {s n : Int} {v' : Value}
    (h : StoH B w b gs size bt ta tc ts fa fc fr sc st bm m ch) {u1 : World} (O : Own B E.int u1 v' (ch s ++ [n])) (f1 : Fr (ownD B ((getM m s).getD (.slice none 0 0))) w u1)
    (hv : Value.blk v' = Value.blk ((getM m s).getD (.slice none 0 0)) ∨ Value.blk v' = some w.heap.size) (M : MapL Try.prog E.int u bm (setM s v' m)) (f2 : Fr (fun i => i = bm) u1 u) :
    StoH B u b gs size bt ta tc ts fa fc fr sc st bm (setM s v' m) (fun s' => if s' = s then ch s' ++ [n] else ch s') ∧ FrT B [E.int, mapK] w u := by
  have q_ := h.look s
  obtain ⟨hOo, hin⟩ := q_
  have hnd := h.map.2
  have F1 : FrT B [E.int, mapK] w u1 := hOo.wrote f1 (Nat.le_refl _) (by decide)
  have M1 : MapL Try.prog E.int u1 bm m := h.map.frO hOo f1
  have F2 : FrT B [E.int, mapK] u1 u := M1.wrote f2 h.lo.2.1 (by decide)
  have F2' : FrT B [mapK] u1 u := M1.wrote f2 h.lo.2.1 (by decide)
  have FF := F1.trans F2
  have lt : ∀ s2 v2, (s2, v2) ∈ m → ∃ g, Value.blk v2 = some g ∧ g < w.heap.size := fun s2 v2 hv2 => by
    have q_ := h.rows s2 v2 hv2
    obtain ⟨hO2, hne⟩ := q_
    have q_ := hO2.lt hne
    obtain ⟨g, h1, _, h2⟩ := q_
    exact ⟨g, h1, h2⟩
  have nd : ∀ s2 v2, (s2, v2) ∈ m → s2 ≠ s → ∀ g, Value.blk v2 = some g → ¬ ownD B ((getM m s).getD (.slice none 0 0)) g := fun s2 v2 hv2 hne g hg hd => by
    have q_ := hin g hd.2.1
    obtain ⟨v0, hm0, hb0⟩ := q_
    exact h.apart s2 v2 s v0 hv2 hm0 hne g hg hb0
  have free : SlY E.int u (.slice fa fr.length fc) fr := by
    refine (h.free.frN f1 fun g hne hg hd => ?_).kept F2' (by decide)
    have q_ := hin g hd.2.1
    obtain ⟨v0, hm0, hb0⟩ := q_
    exact h.apart2 hne s v0 hm0 g hb0 hg
  refine ⟨⟨h.lo, h.cell.kept FF (by decide), h.tab.kept FF (by decide) (by decide), free, h.sts.kept FF (by decide), M, fun s2 v2 hv2 => ?_, fun s2 hs2 => ?_, fun s2 v2 s3 v3 h2 h3 hne g hg hg3 => ?_, fun hne s2 v2 h2 g hg => ?_⟩, FF⟩
  · have q_ := (mem_setM hnd).1 hv2
    rcases q_ with ⟨rfl, rfl⟩ | ⟨hne, hm2⟩
    · rw [if_pos rfl]
      exact ⟨O.kept F2' (by decide), by simp⟩
    · rw [if_neg hne]
      have q_ := h.rows s2 v2 hm2
      obtain ⟨hO2, hne2⟩ := q_
      exact ⟨(hO2.fr f1 fun g _ hg => nd s2 v2 hm2 hne g hg).kept F2' (by decide), hne2⟩
  · have hns : s2 ≠ s := by rintro rfl; exact hs2 ((setM_keys s2 v' m s2).2 (.inl rfl))
    rw [if_neg hns]
    exact h.empt s2 fun hm => hs2 ((setM_keys s v' m s2).2 (.inr hm))
  · have q_ := (mem_setM hnd).1 h2
    rcases q_ with ⟨rfl, rfl⟩ | ⟨hne2, hm2⟩
    · have q_ := (mem_setM hnd).1 h3
      rcases q_ with ⟨e, _⟩ | ⟨hne3, hm3⟩
      · exact hne e.symm
      · rcases hv with hv | hv
        · rw [hv] at hg
          have q_ := hin g hg
          obtain ⟨v0, hm0, hb0⟩ := q_
          exact h.apart _ v0 s3 v3 hm0 hm3 hne g hb0 hg3
        · rw [hv] at hg; cases hg
          have q_ := lt s3 v3 hm3
          obtain ⟨g', h1, h4⟩ := q_
          rw [h1] at hg3; cases hg3; omega
    · have q_ := (mem_setM hnd).1 h3
      rcases q_ with ⟨rfl, rfl⟩ | ⟨hne3, hm3⟩
      · rcases hv with hv | hv
        · rw [hv] at hg3
          have q_ := hin g hg3
          obtain ⟨v0, hm0, hb0⟩ := q_
          exact h.apart s2 v2 _ v0 hm2 hm0 hne g hg hb0
        · rw [hv] at hg3; cases hg3
          have q_ := lt s2 v2 hm2
          obtain ⟨g', h1, h4⟩ := q_
          rw [h1] at hg; cases hg; omega
      · exact h.apart s2 v2 s3 v3 hm2 hm3 hne g hg hg3
  · have q_ := (mem_setM hnd).1 h2
    rcases q_ with ⟨rfl, rfl⟩ | ⟨hne2, hm2⟩
    · rcases hv with hv | hv
      · rw [hv] at hg
        have q_ := hin g hg
        obtain ⟨v0, hm0, hb0⟩ := q_
        exact h.apart2 hne _ v0 hm0 g hb0
      · rw [hv] at hg; cases hg
        intro hf
        have q_ := h.free.blkN hne
        obtain ⟨g', h1, h4⟩ := q_
        rw [h1] at hf; cases hf; omega
    · exact h.apart2 hne s2 v2 hm2 g hg

set_option maxHeartbeats 1000000 in
theorem store_Put_sp {B b gs size : Nat} {L : List StD} {x : StD} {w : World} (S : StoP B w b gs size L) :
    Sp Try.prog F.store_Store_Put #[.pointer (some ⟨b, 0, none⟩), agg x] w fun v w' => v = .int .i64 (putS' size L x).2 ∧ StoP B w' b gs size (putS' size L x).1 ∧ FrS gs B w w' := by
  have SS := S
  have hlt := S.lt
  obtain ⟨hBb, hbw, hBg, hLs, hris, hs1, hs4⟩ := hlt
  obtain ⟨bt, ta, tc, ts, fa, fc, fr, sc, st, bm, m, ch, H, T, M, C⟩ := S
  have hLu := T.len M
  have hcnt := T.cnt
  refine en TBok rfl ?_
  refine rbx fun bx w1 n1 B1 => ?_
  have hbx := n1.lo (u := w)
  refine rpnil ?_
  have H1 := H.up (w' := w1)
  refine drawR TBok mixed (fun _ => False) (upF 12 0) (by kernel_rfl) fun w2 e2 _ => ?_
  refine tld (B := H1.cell) rfl not_false ?_
  refine tldG (ds := enc x.key) (B := B1) rfl rfl not_false ?_
  have H2 := H1.up (w' := w2)
  refine rcall (Get_sp (k := x.key) H2.tab) ?_
  rintro v w3 ⟨rfl, e3⟩
  refine ⟨e3.e, ?_⟩
  have q_ := T.get M x.key
  rcases q_ with ⟨p, y, hm, hp, hy, hyk, hhas⟩ | ⟨hm, hhas⟩
  · -- it is there
    have hg : getTS ts x.key = ((p : Int), true) := by unfold getTS; rw [hm]
    rw [hg]
    refine rldG (ds := enc x) (B := B1) rfl rfl ?_
    refine rcall (store_there_sp (x := x)) ?_
    rintro v w4 ⟨rfl, e4⟩
    have hp' : putS' size L x = (L, if mayX x then 150 else 1) := by
      unfold putS'; split
      · rw [hhas]
      · rfl
    rw [hp']
    exact ⟨rfl, SS.up, FrX.ext Le.e⟩
  have hg : getTS ts x.key = (0, false) := by unfold getTS; rw [hm]
  rw [hg]
  refine rldG (ds := enc x) (B := B1) rfl rfl ?_
  have MY := store_may_sp (x := x) (w := w3)
  by_cases hmay : mayX x
  case neg =>
    rw [if_neg hmay] at MY
    refine rcall MY ?_
    rintro v w4 ⟨rfl, e4⟩
    have hp' : putS' size L x = (L, 1) := by unfold putS'; rw [if_neg hmay]
    rw [hp']
    refine ite (fun _ => ?_) (fun h => absurd (by first | omega | decide | (dsimp only <;> omega)) h)
    exact ⟨rfl, SS.up, FrX.ext Le.e⟩
  rw [if_pos hmay] at MY
  refine rcall MY ?_
  rintro v w4 ⟨rfl, e4⟩
  refine ite (fun h => absurd rfl h) (fun _ => ?_)
  have H4 := H.up (w' := w4)
  refine rldG (ds := [.int .i64 (size : Nat), .slice fa fr.length fc]) (B := H4.cell) rfl rfl ?_
  have hokl : fr.length ≤ size := by omega
  refine rcall (pool_Take_sp (sz := (size : Int)) H4.free.sl (by omega)) ?_
  rintro v w5 ⟨⟨pv, rfl, a5, c5, rfl, O5⟩, e5⟩
  refine ral fun b6 w6 n6 z6 => ?_
  refine rsto (B := z6) (vs := [.int .i64 (takeP ((size : Int), fr)).2.1.1, .slice a5 (takeP ((size : Int), fr)).2.1.2.length c5]) rfl rfl rfl (pl_one _ _ _ _) fun w7 B7 f7 _ => ?_
  have s7 : Stp w5 w7 := ⟨Fr.st Le.e f7 fun i hi => by subst hi; exact n6.lo⟩
  clear z6 f7
  by_cases hfr : fr = []
  · -- it is full
    have ht : takeP ((size : Int), fr) = (0, zP, 140) := by unfold takeP; rw [if_pos T.ok, hfr]; rfl
    rw [ht]
    have hp' : putS' size L x = (L, 140) := by
      unfold putS'; rw [if_pos hmay, hhas]; simp only
      rw [if_pos (by rw [hfr] at hcnt; simp at hcnt; omega)]
    rw [hp']
    refine ite (fun _ => ?_) (fun h => absurd (by first | omega | decide | (dsimp only <;> omega)) h)
    exact ⟨rfl, SS.up, FrX.ext Le.e⟩
  have q_ : ∃ fr' n, fr = fr' ++ [n] := ⟨fr.dropLast, fr.getLast hfr, (List.dropLast_concat_getLast hfr).symm⟩
  obtain ⟨fr', n, hfre⟩ := q_
  subst hfre
  have hn := T.ok.2.2.1 n (by simp)
  have q_ := Int.eq_ofNat_of_zero_le hn.1
  obtain ⟨p, rfl⟩ := q_
  have ht : takeP ((size : Int), fr' ++ [(p : Int)]) = ((p : Int), ((size : Int), fr'), 0) := by
    unfold takeP; rw [if_pos T.ok]
    rw [List.getLast?_concat]
    show ((p : Int), ((size : Int), (fr' ++ [(p : Int)]).dropLast), (0 : Int)) = _
    rw [List.dropLast_concat]
  rw [ht] at O5 B7 ⊢
  refine ite (fun h => absurd rfl h) (fun _ => ?_)
  have hput := T.put M C hmay.1 hm
  obtain ⟨hp0, T', M', C'⟩ := hput
  have hlf : (fr' ++ [(p : Int)]).length = fr'.length + 1 := by simp
  have hp' : putS' size L x = (insS x L, 0) := by
    unfold putS'; rw [if_pos hmay, hhas]; simp only
    rw [if_neg (by omega)]
  rw [hp']
  have H7 := H.up (w' := w7)
  have hgw : gs < w.heap.size := by
    have := H.sts.lt (by intro h; have := T.stl; rw [h] at this; simp at this; omega)
    obtain ⟨g, h1, _, h2⟩ := this
    have hge : gs = g := Option.some.inj h1
    omega
  have hb6 := n6.lo (u := w)
  -- the table
  refine drawR TBok mixed (fun i => i ≠ b ∧ i ≠ bx) [0,1,2,3,4,5,6,7,8] (by kernel_rfl) fun w8 e8 _ => ?_
  refine tld (B := H7.cell) rfl (fun h => h.1 rfl) ?_
  refine tldG (ds := enc x.key) (B := B1) rfl rfl (fun h => h.2 rfl) ?_
  have H8 := H7.up (w' := w8)
  have PT := Put_spT (k := x.key) (n := (p : Int)) H8.tab
  rw [hp0] at PT
  refine rcall PT ?_
  rintro v w9 ⟨rfl, T9, f9⟩
  have B8 := B1.mv (w := w8)
  refine ⟨Fr.mono f9 fun i _ hi => ⟨by rintro rfl; exact absurd (hi.cells H8.cell.h) (by decide), by rintro rfl; exact absurd (hi.cells B8.h) (by decide)⟩, ?_⟩
  refine ite (fun h => absurd rfl h) (fun _ => ?_)
  have F9 : FrS gs B w w9 := (FrX.ext Le.e).trans (f9.x (Nat.le_refl _) (by decide))
  have B9 := B8.kept f9 (by decide)
  have P9 := (B7.mv (w := w8)).kept f9 (by decide)
  have C9 := H8.cell.kept f9 (by decide)
  have S9 := H8.sts.kept f9 (by decide)
  have R9 : SlY E.int w9 (.slice a5 fr'.length c5) fr' := (O5.y.up (w' := w8)).kept f9 (by decide)
  -- its place
  refine drawRT TBok mixed (fun i => i = b ∨ ownD B (.slice (some ⟨gs, 0, none⟩) size sc) i) (.one 0 (.one 1 (.one 2 (.one 3 (.one 5 (.one 6 (.one 7 (.lone 4 (.one 8 (.one 9 (.one 10 (.one 11 (.one 12 .nil))))))))))))) (by kernel_rfl) fun w10 e10 _ => ?_
  have nb6 : ¬ (b6 = b ∨ ownD B (.slice (some ⟨gs, 0, none⟩) size sc) b6) := fun h => h.elim (fun h => by omega) (fun h => by have := Option.some.inj h.2.1; simp only at this; omega)
  have nbx : ¬ (bx = b ∨ ownD B (.slice (some ⟨gs, 0, none⟩) size sc) bx) := fun h => h.elim (fun h => by omega) (fun h => by have := Option.some.inj h.2.1; simp only at this; omega)
  refine tldG (ds := [.int .i64 (size : Nat), .slice a5 fr'.length c5]) (B := P9) rfl rfl nb6 ?_
  refine tldG (ds := enc x) (B := B9) rfl rfl nbx ?_
  refine rld (B := C9) rfl ⟨Fr.refl _ _, ?_⟩
  have C10 := C9.mv (w := w10)
  refine rsto (B := C10) (vs := [.int .i64 (size : Nat), .slice a5 fr'.length c5]) rfl rfl rfl (pl_one _ _ _ _) fun w11 C11 f11 _ => ⟨f11.mono fun i _ hi => .inl hi, ?_⟩
  have K11 : FrT B [E.store_Store] w10 w11 := C10.wrote f11 hBb (by decide)
  have S11 := (S9.up (w' := w10)).kept K11 (by decide)
  have hpl : p < st.length := by rw [T.stl]; omega
  refine tixO rfl S11 (x := st[p]) (by simp [hpl]) fun g hg _ A => ?_
  refine rstO' rfl x S11 hg hpl rfl fun w12 S12 f12 _ => ⟨f12.mono fun i _ hi => .inr hi, ?_⟩
  have hgg : g = gs := (Option.some.inj hg).symm
  have G12 : Fr (fun i => i = gs) w11 w12 := Fr.mono f12 fun i _ hi => (Option.some.inj hi.2.1).symm
  have F12 : FrS gs B w w12 := (((F9.trans (FrX.ext e10.e)).trans (K11.x (Nat.le_refl _) (by decide))).trans (S11.wroteX f12 fun g hg => (Option.some.inj hg).symm))
  have hSb : ¬ ownD B (.slice (some ⟨gs, 0, none⟩) size sc) b := C11.notOwn S11 (by decide)
  -- the store behind it, its chains as they were
  have H12 : StoH B w12 b gs size bt ta tc (putTS size ts x.key p).1 a5 c5 fr' sc (st.set p x) bm m ch := by
    have T10 := (T9.up (w' := w10)).kept K11 (by decide) (by decide)
    have T12 : TabS B w12 bt ta tc size (putTS size ts x.key p).1 := T10.kept (S11.wrote f12 (Nat.le_refl _) (show E.api_State ∈ [E.api_State] by decide)) (by decide) (by decide)
    have K12 : FrT B [E.api_State] w11 w12 := S11.wrote f12 (Nat.le_refl _) (by decide)
    refine ⟨H.lo, C11.fr f12 hSb, T12, ((R9.up (w' := w10)).kept K11 (by decide)).kept K12 (by decide), S12, (((H8.map.kept f9 (by decide)).up (w' := w10)).kept K11 (by decide)).kept K12 (by decide), fun s v hv => ?_, H.empt, H.apart, fun hne s v hv g hg hf => ?_⟩
    · have := H8.rows s v hv
      exact ⟨(((this.1.kept f9 (by decide)).up (w' := w10)).kept K11 (by decide)).kept K12 (by decide), this.2⟩
    · have q_ := O5.lt hne
      obtain ⟨g5, h1, h2, _⟩ := q_
      rw [h1] at hf; cases hf
      have q_ := H.rows s v hv
      obtain ⟨hO2, hne2⟩ := q_
      have q_ := hO2.lt hne2
      obtain ⟨g', h3, _, h4⟩ := q_
      rw [h3] at hg; cases hg
      have := Le.size (a := w) (b := w4); omega
  have B12 : Bk w12 bx (enc x) E.api_State := ((B9.mv (w := w10)).kept K11 (by decide)).fr f12 (fun h => nbx (.inr h))
  have hbm : bm ≠ b := by intro e; exact H12.map.ne H12.cell e.symm
  have hbmx : bm ≠ bx := by intro e; exact H12.map.ne B12 e.symm
  have hlk := H12.look x.key.slot
  obtain ⟨hOo, hin⟩ := hlk
  have nold : ∀ i, w.heap.size ≤ i ∨ i = b → ¬ ownD B ((getM m x.key.slot).getD (.slice none 0 0)) i := fun i hi hd => by
    have q_ := hin i hd.2.1
    obtain ⟨v0, hm0, hb0⟩ := q_
    have q_ := H.rows _ v0 hm0
    obtain ⟨hO2, hne2⟩ := q_
    have q_ := hO2.lt hne2
    obtain ⟨g', h3, _, h4⟩ := q_
    rw [h3] at hb0; cases hb0
    rcases hi with h | rfl
    · omega
    · rcases hOo with ⟨_, a, e⟩ | hO
      · exact hd.2.2 a e
      · have q_ := hO.2
        rcases q_ with ⟨e, _⟩ | ⟨g2, cap, cur, e, _, hg2, _⟩
        · rw [e] at hd; cases hd.2.1
        · have h5 := hd.2.1
          rw [e] at h5
          simp only [Value.blk] at h5; cases h5
          have := H12.cell.h
          rw [hg2] at this; cases this
  have hchl : (ch x.key.slot).length ≤ 1000 := by
    have h1 := (T.of M C x.key.slot).length_eq
    have h2 : (ofS L x.key.slot).length ≤ L.length := List.length_filter_le _ _
    rw [List.length_map] at h1; omega
  -- its chain
  refine drawRT TBok mixed (fun i => i = bm ∨ ownD B ((getM m x.key.slot).getD (.slice none 0 0)) i) (.one 0 (.one 1 (.one 2 (.one 3 (.one 4 (.one 5 (.one 6 (.one 7 (.one 8 (.one 9 (.one 10 (.one 11 (.one 12 (.one 13 (.one 15 (.duo 14 (.one 16 (.one 17 (.one 18 .nil))) 16 (.lone 14 (.one 17 (.one 18 .nil))))))))))))))))))) (by kernel_rfl) fun w13 e13 _ => ?_
  have nb : ¬ (b = bm ∨ ownD B ((getM m x.key.slot).getD (.slice none 0 0)) b) := fun h => h.elim (fun h => hbm h.symm) (nold b (.inr rfl))
  have nx : ¬ (bx = bm ∨ ownD B ((getM m x.key.slot).getD (.slice none 0 0)) bx) := fun h => h.elim (fun h => hbmx h.symm) (nold bx (.inl hbx))
  refine tld (B := H12.cell) rfl nb ?_
  refine tld (B := B12) rfl nx ?_
  refine tld (B := H12.cell) rfl nb ?_
  refine tld (B := B12) rfl nx ?_
  have H13 := H12.up (w' := w13)
  have fin : ∀ (u0 u1 u2 : World) (v' : Value), Le w13 u0 → Own B E.int u1 v' (ch x.key.slot ++ [(p : Int)]) → Fr (ownD B ((getM m x.key.slot).getD (.slice none 0 0))) u0 u1 → (Value.blk v' = Value.blk ((getM m x.key.slot).getD (.slice none 0 0)) ∨ Value.blk v' = some u0.heap.size) →
      MapL Try.prog E.int u2 bm (setM x.key.slot v' m) → Fr (fun i => i = bm) u1 u2 → StoP B u2 b gs size (insS x L) ∧ FrS gs B w u2 := fun u0 u1 u2 v' L0 O1 f1 hv M2 f2 => by
    have hc := (H13.up (w' := u0)).chain O1 f1 hv M2 f2
    exact ⟨⟨bt, ta, tc, _, a5, c5, fr', sc, _, bm, _, _, hc.1, T', M', C'⟩, (F12.trans (FrX.ext Le.e)).trans ((FrX.ext L0.e).trans (hc.2.x (Nat.le_refl _) (by decide)))⟩
  refine ⟨?_, ?_⟩
  · refine rlook H13.map x.key.slot rfl ⟨Fr.refl _ _, ?_⟩
    refine rbs1 (p : Int) rfl rfl (by decide) fun b14 w14 e14 _ S14 => ⟨Fr.fr e14.e, ?_⟩
    have h14 : B ≤ w14.heap.size := by have := Le.size (a := w13) (b := w14); have := H13.cell.lt; omega
    refine rappD ⟨rfl, rfl⟩ (hOo.up (w' := w14)) S14 (by simp) h14 (by simp; omega) fun v' w15 O15 f15 hv => ⟨f15.mono fun i _ hi => .inr hi, ?_⟩
    have M15 : MapL Try.prog E.int w15 bm m := (H13.map.up (w' := w14)).frO (hOo.up (w' := w14)) f15
    refine rupd M15 x.key.slot rfl fun w16 M16 f16 _ => ⟨f16.mono fun i _ hi => .inl hi, ?_⟩
    exact ⟨rfl, fin w14 w15 w16 v' inferInstance O15 f15 hv M16 f16⟩
  · refine rbs1 (p : Int) rfl rfl (by decide) fun b14 w14 e14 _ S14 => ⟨Fr.fr e14.e, ?_⟩
    refine rlook (H13.map.up (w' := w14)) x.key.slot rfl ⟨Fr.refl _ _, ?_⟩
    have h14 : B ≤ w14.heap.size := by have := Le.size (a := w13) (b := w14); have := H13.cell.lt; omega
    refine rappD ⟨rfl, rfl⟩ (hOo.up (w' := w14)) S14 (by simp) h14 (by simp; omega) fun v' w15 O15 f15 hv => ⟨f15.mono fun i _ hi => .inr hi, ?_⟩
    have M15 : MapL Try.prog E.int w15 bm m := (H13.map.up (w' := w14)).frO (hOo.up (w' := w14)) f15
    refine rupd M15 x.key.slot rfl fun w16 M16 f16 _ => ⟨f16.mono fun i _ hi => .inl hi, ?_⟩
    exact ⟨rfl, fin w14 w15 w16 v' inferInstance O15 f15 hv M16 f16⟩
end Go.W
