/-
  Proved here: arguments that are rows of numbers, and rows of rows, can be opened; no row is longer than a machine holds.
  Conditions: those that each fact names.
-/
import Derived.Test.YtgplodgpbhddbaaArgZ
import Derived.Test.YtgplodgpbhddbaaPartR
namespace Go.W
open Go Go.Proofs
open Enc (enc)
set_option maxRecDepth 100000

theorem rd_rows {α : Type} [Enc α] {P : Program} {e : TypeId} {w : World} (hc : P.cellsOf e = Enc.sz α) {G : α → Prop} {a : Addr} {len cap : Nat} (hl : len ≤ cap)
    (hex : ∀ i, i < len → ∃ y : α, (∃ c, w.cells? 0 (a.add (i * P.cellsOf e)) (P.cellsOf e) = some c ∧ c = enc y) ∧ G y) :
    ∃ l : List α, SlF w (.slice (some a) len cap) l ∧ ∀ y ∈ l, G y := by
  have q_ := list_of hex
  obtain ⟨l, hll, hp⟩ := q_
  refine ⟨l, ⟨_, _, by rw [hll], by rw [hll]; exact hl, ?_⟩, ?_⟩
  · by_cases h0 : l = []
    · exact .inl h0
    · right
      have hpos := Enc.pos (α := α)
      have hl0 : 0 < l.length := by cases l; exact absurd rfl h0; simp
      have hspot : a.spot = none := by
        have q_ := hp 0 l[0] (by simp [hl0])
        obtain ⟨⟨c, h1, h2⟩, _⟩ := q_
        have q_ := World.cells?_some h1
        obtain ⟨_, h3, h4⟩ := q_
        have := h4 0 (by omega)
        rw [List.getElem?_eq_getElem (by omega)] at this
        have h5 : (a.add (0 * P.cellsOf e)).add 0 = a := by simp [Addr.add]
        rw [h5] at this
        unfold World.cell? at this
        split at this
        · split at this
          · cases this
          · rename_i hs; simpa using hs
        · cases this
      obtain ⟨ab, ao, asp⟩ := a
      simp only at hspot; subst hspot
      refine ⟨ab, ao, rfl, At.flat fun i y hy => ?_⟩
      have q_ := hp i y hy
      obtain ⟨⟨c, h1, rfl⟩, _⟩ := q_
      have q_ := World.cells?_some h1
      obtain ⟨_, h3, h4⟩ := q_
      intro j v hj
      have hjl : j < (enc y).length := (List.getElem?_eq_some_iff.1 hj).1
      have := h4 j (by omega)
      rw [addr_add, addr_add, hc] at this
      rw [this]; exact hj
  · intro y hy
    have q_ := List.mem_iff_getElem.1 hy
    obtain ⟨i, hi, rfl⟩ := q_
    exact (hp i _ (by simp [hi])).2
theorem weightsAll_mem {H : Type} {P : Program} {e : TypeId} {p : Nat → Bool} : ∀ {ds : List (DataW H)} {d : DataW H}, d ∈ ds → (DataW.weightsAll P e ds).all p = true → (d.weights P e).all p = true
  | [], _, hd, _ => by simp at hd
  | d' :: r, d, hd, h => by
    simp only [DataW.weightsAll, List.all_append, Bool.and_eq_true] at h
    have q_ := List.mem_cons.1 hd
    rcases q_ with rfl | hd
    · exact h.1
    · exact weightsAll_mem hd h.2
theorem arg_ints {W : World} {b : Nat} {v : Value} {H : Type} {eH : TypeId × Value → H} {d : DataW H} {ps : List MemPlace} (h : Value.okWide Try.prog W .any b E.s_int v) (ht : DataW.Trod eH Try.prog W 0 (fun _ => true) true E.s_int v d ps) :
    ∃ a n c, ∃ l : List Int, v = .slice a n c ∧ SlF W (.slice a n c) l := by
  obtain ⟨fuel, hx⟩ := ht
  have q_ := rd_slice (P := Try.prog) (α := Int) (e := E.int) (by kernel_rfl) hx
  obtain ⟨a, n, c, l, hc, h1, h2, _⟩ := q_
  exact ⟨a, n, c, l, arg_one h (by kernel_rfl) hc, h1⟩
theorem arg_rows {W : World} {b : Nat} {v : Value} {H : Type} {eH : TypeId × Value → H} {d : DataW H} {ps : List MemPlace} (h : Value.okWide Try.prog W .any b E.s_s_int v) (ht : DataW.Trod eH Try.prog W 0 (fun _ => true) true E.s_s_int v d ps)
    (hw : (d.weights Try.prog E.s_s_int).all (· ≤ reachBytes) = true) :
    ∃ a n c, ∃ L : List Rw, v = .slice a n c ∧ Sl2 W (.slice a n c) L ∧ L.length ≤ 9223372036854775807 ∧ ∀ x ∈ L, x.l.length ≤ 17592186044416 := by
  obtain ⟨fuel, hx⟩ := ht
  have u2 : Try.prog.underlying E.s_s_int = some (.slice E.s_int) := by kernel_rfl
  have u1 : Try.prog.underlying E.s_int = some (.slice E.int) := by kernel_rfl
  have hc : Try.prog.cellsOf E.s_int = Enc.sz Rw := by kernel_rfl
  have hb : Try.prog.bytesOf E.int = 8 := by kernel_rfl
  have q_ := DataW.trod_slice u2 hx
  rcases q_ with ⟨hcs, _⟩ | ⟨a, len, cap, elems, rest, n, _, hcs, hxd, _, hl, hm, hlen, hel, _⟩
  · exact ⟨none, 0, 0, [], arg_one h (by kernel_rfl) hcs, ⟨SlF.nil W, by simp⟩, by simp, by simp⟩
  · have hd : d = .slice (elems.map (·.1)) (rest.map (·.1)) := congrArg Prod.fst hxd
    rw [hd] at hw
    simp only [DataW.weights, u2, List.all_cons, List.all_append, Bool.and_eq_true] at hw
    have hwa := hw.2.1
    have hex : ∀ i, i < len → ∃ y : Rw, (∃ c, W.cells? 0 (a.add (i * Try.prog.cellsOf E.s_int)) (Try.prog.cellsOf E.s_int) = some c ∧ c = enc y) ∧ (SlF W y.v y.l ∧ y.l.length ≤ 17592186044416) := by
      intro i hi
      have hE := hel i hi
      rw [List.getElem?_eq_getElem (by omega), Option.bind_eq_some_iff] at hE
      obtain ⟨c, h1, h2⟩ := hE
      have q_ := rd_slice (P := Try.prog) (α := Int) (e := E.int) u1 h2
      obtain ⟨a1, n1, c1, l1, hc1, hs1, _, _, _⟩ := q_
      refine ⟨⟨⟨a1, n1, c1⟩, l1⟩, ⟨c, h1, hc1⟩, hs1, ?_⟩
      have hn1 := hs1.len
      have hwi := weightsAll_mem (List.mem_map.2 ⟨elems[i], List.getElem_mem (by omega), rfl⟩) hwa
      have q_ := DataW.trod_slice u1 h2
      rcases q_ with ⟨hcs', _⟩ | ⟨a', len', cap', elems', rest', n', _, hcs', hxd', _, _, _, hlen', _⟩
      · rw [hc1] at hcs'
        have : n1 = 0 := by injection hcs' with e1 _; injection e1
        show l1.length ≤ _
        omega
      · rw [hxd'] at hwi
        simp only [DataW.weights, u1, List.all_cons, Bool.and_eq_true, hb, List.length_map] at hwi
        have h8 := of_decide_eq_true hwi.1
        rw [hc1] at hcs'
        have : n1 = len' := by injection hcs' with e1 _; injection e1
        have hrb : reachBytes = 140737488351232 := rfl
        rw [hrb] at h8
        show l1.length ≤ _
        omega
    have q_ := rd_rows hc hl hex
    obtain ⟨L, hL, hG⟩ := q_
    have hlL := hL.len
    have hmx : maxLen = 9223372036854775807 := rfl
    exact ⟨some a, len, cap, L, arg_one h (by kernel_rfl) hcs, ⟨hL, fun x hx => (hG x hx).1⟩, by omega, fun x hx => (hG x hx).2⟩
theorem rows_w {H : Type} {P : Program} {t : TypeId} {d : DataW H} (h : (DataW.weightsEach P [t] [d]).all (· ≤ reachBytes) = true) : (d.weights P t).all (· ≤ reachBytes) = true := by
  simp only [DataW.weightsEach, List.append_nil] at h; exact h
end Go.W
