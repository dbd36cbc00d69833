/-
  Proved here: the reference writes a number as its bytes; the reference reads just what a number's bytes are; the reference reads a number (a walk); the reference writes several numbers one behind the other; the reference cuts a number off a text; answers compared; is a reply right? (the reference's); is a reply right? (the reference's); the reference writes a reply.
  Conditions: those that each fact names.
-/
import Derived.Test.YtgplodgpbhddbaaTA
import Derived.Test.YtgplodgpbhddbaaW29
namespace Go.W
open Go Go.Proofs
open Enc (enc)
set_option maxRecDepth 10000

instance : KindT Try.prog E.int .i64 := ⟨by kernel_rfl⟩
instance : KindT Try.prog E.uint8 .u8 := ⟨by kernel_rfl⟩
instance : StrT Try.prog E.string := ⟨by kernel_rfl⟩
instance : BytT Try.prog E.s_uint8 E.string := ⟨⟨E.uint8, by kernel_rfl, by kernel_rfl⟩, by kernel_rfl⟩
theorem rconvE {P : Program} {k : Value → World → Prop} {pn : List PanicEntry → World → Prop} {w : World} {s d : TypeId} {kd ks kx : IntKind} [hs : KindT P s ks] [hd : KindT P d kd] {n z : Int} (hz : kd.wrap n = z) (hk : k (.int kd z) w) : SemV P (convert s d (.int kx n)) k pn w := rconv (hz ▸ hk)
theorem wrap_u8 {x : Nat} (h : x < 256) : IntKind.u8.wrap (x : Int) = ((UInt8.ofNat x).toNat : Int) := by
  have e : (UInt8.ofNat x).toNat = x := by rw [UInt8.toNat_ofNat']; omega
  rw [e]
  unfold IntKind.wrap
  simp [IntKind.bits, IntKind.signed]
  omega
abbrev txt (l : List UInt8) : Value := .string ⟨l.toArray⟩
def numV (n : Int) : Value := if 0 ≤ n ∧ n ≤ 2147483647 then .tuple #[txt (numB n.toNat), .int .i64 0] else .tuple #[txt [], .int .i64 1]
theorem r01_Number_sp {n : Int} {w : World} : Sp Try.prog F.r01_Number #[.int .i64 n] w fun v w' => v = numV n ∧ Stp w w' := by
  have no : ¬ (0 ≤ n ∧ n ≤ 2147483647) → numV n = .tuple #[txt [], .int .i64 1] := fun h => if_neg h
  refine en TBok rfl ?_
  refine ite (fun h => ⟨(no (by omega)).symm, stp⟩) (fun h1 => ?_)
  refine ite (fun h => ⟨(no (by omega)).symm, stp⟩) (fun h2 => ?_)
  have ok : numV n = .tuple #[txt (numB n.toNat), .int .i64 0] := if_pos (by omega)
  clear no
  have q_ : ∃ N : Nat, n = (N : Int) := ⟨n.toNat, by omega⟩
  obtain ⟨N, rfl⟩ := q_
  rw [Int.toNat_natCast] at ok
  have hl5 := numB_len (n := N) (by omega)
  refine loop2 TBok 5 [] 0 4 (fun v o u => ∃ (m : Nat) (p : List UInt8), v = .int .i64 (m : Int) ∧ m ≤ N ∧ Own w.heap.size E.uint8 u o p ∧ p ++ numB m = numB N ∧ Stp w u) (fun v _ _ => (Go.RowKit.intOf v).toNat) rfl
    ⟨N, [], rfl, Nat.le_refl _, Own.nil _ _ _, rfl, stp⟩ ?_
  rintro _ o g u ⟨m, p, rfl, hm, O, hp, e⟩
  have hpl : p.length ≤ 5 := by have := congrArg List.length hp; rw [List.length_append] at this; omega
  refine ite (fun hge => ?_) (fun hlt => ?_)
  · have hnb := numB_ge (n := m) (by omega)
    refine rrem (by omega) (by omega) ?_
    refine rarE (y := ((128 + m % 128 : Nat) : Int)) (by omega) (by omega) ?_
    refine rconvE (wrap_u8 (x := 128 + m % 128) (by omega)) ?_
    refine rbs1 (UInt8.ofNat (128 + m % 128)) rfl rfl (by decide) fun b6 u6 e6 _ S6 => ?_
    refine rapp1 (u := w) ⟨rfl, rfl⟩ O.up S6 (by omega) fun v7 u7 O7 f7 s7 => ?_
    refine rdivE (q := ((m / 128 : Nat) : Int)) (by omega) (by rw [Int.tdiv_eq_ediv_of_nonneg (by omega)]; omega) (by omega) ?_
    refine ⟨⟨m / 128, _, rfl, by omega, O7, by rw [List.append_assoc, ← hp, hnb]; rfl, stp⟩, ?_⟩
    show ((m / 128 : Nat) : Int).toNat < ((m : Nat) : Int).toNat
    omega
  · have hnb := numB_lt (n := m) (by omega)
    refine rconvE (wrap_u8 (x := m) (by omega)) ?_
    refine rbs1 (UInt8.ofNat m) rfl rfl (by decide) fun b6 u6 e6 _ S6 => ?_
    refine rapp1 (u := w) ⟨rfl, rfl⟩ O.up S6 (by omega) fun v7 u7 O7 f7 s7 => ?_
    rw [← hnb, hp] at O7
    have q_ := O7.shape
    obtain ⟨oa, oc, rfl⟩ := q_
    refine rbstr O7.sl ?_
    exact ⟨ok.symm, stp⟩
end Go.W
namespace Go.W
open Go Go.Proofs
open Enc (enc)
set_option maxRecDepth 10000

/-- bytes that end as a number's do -/
def EndB : List UInt8 → Prop
  | [] => False
  | [c] => c.toNat < 128
  | c :: d :: r => 128 ≤ c.toNat ∧ EndB (d :: r)
theorem OneB.e : ∀ {l : List UInt8}, OneB l → EndB l
  | [], h => h.elim
  | [_], h => h
  | _ :: _ :: _, h => ⟨h.1, OneB.e h.2.1⟩
theorem EndB.pre : ∀ {a b s t : List UInt8}, EndB a → EndB b → a ++ s = b ++ t → a = b ∧ s = t
  | [], _, _, _, h, _, _ => h.elim
  | _, [], _, _, _, h, _ => h.elim
  | [c], [d], s, t, _, _, e => by simp at e; exact ⟨by rw [e.1], e.2⟩
  | [c], d :: d2 :: r, s, t, h, h', e => by
    simp at e
    have h1 := h'.1
    simp only [EndB] at h
    rw [← e.1] at h1; omega
  | c :: c2 :: r, [d], s, t, h, h', e => by
    simp at e
    have h1 := h.1
    simp only [EndB] at h'
    rw [e.1] at h1; omega
  | c :: c2 :: r, d :: d2 :: q, s, t, h, h', e => by
    have e1 : c = d ∧ (c2 :: r) ++ s = (d2 :: q) ++ t := by simpa using e
    have ih := EndB.pre h.2 h'.2 e1.2
    rw [e1.1, ih.1]; exact ⟨rfl, ih.2⟩
theorem EndB.snoc : ∀ {l : List UInt8} {c : UInt8}, (∀ x ∈ l, 128 ≤ x.toNat) → c.toNat < 128 → EndB (l ++ [c])
  | [], _, _, h => h
  | [d], _, h, hc => ⟨h d List.mem_cons_self, hc⟩
  | d :: e :: r, _, h, hc => ⟨h d List.mem_cons_self, EndB.snoc (l := e :: r) (fun x hx => h x (List.mem_cons_of_mem _ hx)) hc⟩
theorem EndB.last : ∀ {l : List UInt8}, EndB l → ∃ p c, l = p ++ [c] ∧ c.toNat < 128
  | [], h => h.elim
  | [c], h => ⟨[], c, rfl, h⟩
  | c :: d :: r, h => by
    have q_ := EndB.last h.2
    obtain ⟨p, e, h1, h2⟩ := q_
    exact ⟨c :: p, e, by rw [h1]; rfl, h2⟩
theorem valB_snoc : ∀ (l : List UInt8) (c : UInt8), valB (l ++ [c]) = valB l + 128 ^ l.length * (c.toNat % 128)
  | [], c => by simp [valB]
  | d :: r, c => by
    have ih := valB_snoc r c
    simp only [List.cons_append, valB, ih, List.length_cons, Nat.pow_succ, Nat.mul_add]
    rw [Nat.mul_comm (128 ^ r.length) 128, Nat.mul_assoc]; omega
theorem valB_lt : ∀ (l : List UInt8), valB l < 128 ^ l.length
  | [] => by simp [valB]
  | d :: r => by
    have ih := valB_lt r
    simp only [valB, List.length_cons, Nat.pow_succ]
    omega
/-- a number's bytes stand there -/
def RdAt (s : List UInt8) (a n : Nat) : Prop := n ≤ 2147483647 ∧ ∃ t, s.drop a = numB n ++ t
/-- what was read up to here, all with their top bit, and one behind it without -/
theorem rdAt_end {s l t : List UInt8} {a : Nat} (hd : s.drop a = l ++ t) (hl : EndB l) (n : Nat) : RdAt s a n ↔ n ≤ 2147483647 ∧ n = valB l ∧ numB n = l := by
  constructor
  · rintro ⟨h1, t', h2⟩
    have h3 := EndB.pre (numB_one n).e hl (h2.symm.trans hd)
    exact ⟨h1, by rw [← h3.1, numB_val], h3.1⟩
  · rintro ⟨h1, _, h3⟩
    exact ⟨h1, t, by rw [h3]; exact hd⟩
theorem rdAt_none {s l t : List UInt8} {a : Nat} (hd : s.drop a = l ++ t) (hl : ∀ x ∈ l, 128 ≤ x.toNat) (h5 : l.length = 5 ∨ t = []) (n : Nat) : ¬ RdAt s a n := by
  rintro ⟨h1, t', h2⟩
  have q_ := (numB_one n).e.last
  obtain ⟨p, c, h3, h4⟩ := q_
  have hlen := numB_len h1
  have hle : (numB n).length ≤ l.length := by
    rcases h5 with h | h
    · omega
    · have := congrArg List.length (h2.symm.trans hd)
      rw [h, List.length_append, List.length_append] at this
      simp at this; omega
  have hpre : numB n <+: l := by
    have e := h2.symm.trans hd
    exact List.prefix_of_prefix_length_le ⟨t', rfl⟩ ⟨t, e.symm⟩ hle
  have hc : c ∈ l := hpre.subset (by rw [h3]; simp)
  have := hl c hc
  omega
end Go.W
namespace Go.W
open Go Go.Proofs
open Enc (enc)
set_option maxRecDepth 10000

def RdV (s : List UInt8) (a : Int) (v : Value) : Prop :=
  (∃ A n : Nat, a = (A : Int) ∧ RdAt s A n ∧ v = .tuple #[.int .i64 (n : Nat), .int .i64 ((A + (numB n).length : Nat) : Int), .bool true]) ∨
  ((∀ A n : Nat, a = (A : Int) → ¬ RdAt s A n) ∧ v = .tuple #[.int .i64 0, .int .i64 0, .bool false])
theorem rdAt_le {s : List UInt8} {a n : Nat} (h : RdAt s a n) : a < s.length := by
  obtain ⟨_, t, h2⟩ := h
  have := congrArg List.length h2
  have := List.length_pos_iff.2 (numB_ne n)
  simp at *; omega
theorem txt_part (s : List UInt8) (a b : Nat) : (⟨s.toArray⟩ : ByteArray).extract a b = ⟨((s.drop a).take (b - a)).toArray⟩ := by
  apply ByteArray.ext
  rw [ByteArray.data_extract]
  simp
theorem r01_Number_ok {n : Nat} {w : World} (h : n ≤ 2147483647) : Sp Try.prog F.r01_Number #[.int .i64 (n : Int)] w fun v w' => v = .tuple #[txt (numB n), .int .i64 0] ∧ Stp w w' :=
  r01_Number_sp.mono fun _ _ h1 => ⟨h1.1.trans (if_pos (by omega)), h1.2⟩
theorem r01_Number_no {n : Int} {w : World} (h : ¬ (0 ≤ n ∧ n ≤ 2147483647)) : Sp Try.prog F.r01_Number #[.int .i64 n] w fun v w' => v = .tuple #[txt [], .int .i64 1] ∧ Stp w w' :=
  r01_Number_sp.mono fun _ _ h1 => ⟨h1.1.trans (if_neg h), h1.2⟩
set_option maxHeartbeats 1000000 in
theorem r01_ReadNumber_sp {s : List UInt8} {a : Int} {w : World} (hs : s.length ≤ 1000000000) : Sp Try.prog F.r01_ReadNumber #[txt s, .int .i64 a] w fun v w' => RdV s a v ∧ Stp w w' := by
  have hsz : (⟨s.toArray⟩ : ByteArray).size = s.length := rfl
  have bad : ∀ u : World, Stp w u → (∀ A n : Nat, a = (A : Int) → ¬ RdAt s A n) → RdV s a (.tuple #[.int .i64 0, .int .i64 0, .bool false]) ∧ Stp w u := fun u st h => ⟨.inr ⟨h, rfl⟩, st⟩
  refine en TBok rfl ?_
  refine ite (fun h => bad _ stp fun A n e => by omega) (fun h1 => ?_)
  refine ite (fun h => bad _ stp fun A n e hr => by have := rdAt_le hr; omega) (fun h2 => ?_)
  have q_ : ∃ A : Nat, a = (A : Int) := ⟨a.toNat, by omega⟩
  obtain ⟨A, rfl⟩ := q_
  have bad' : ∀ u : World, Stp w u → (∀ n : Nat, ¬ RdAt s A n) → RdV s A (.tuple #[.int .i64 0, .int .i64 0, .bool false]) ∧ Stp w u := fun u st h => bad u st fun A' n e => by
    have : A' = A := by omega
    subst this; exact h n
  clear bad
  refine loop3 TBok 10 [4, 5, 6] 7 8 9 (fun n q i u => ∃ (j W : Nat) (l t : List UInt8), i = .int .i64 ((A + j : Nat) : Int) ∧ j ≤ 5 ∧ s.drop A = l ++ t ∧ l.length = j ∧ (∀ x ∈ l, 128 ≤ x.toNat) ∧ n = .int .i64 (valB l : Nat) ∧ q = .int .i64 (W : Nat) ∧ W = 128 ^ j ∧ Stp w u) (fun _ _ i _ => s.length - (Go.RowKit.intOf i).toNat) rfl
    ⟨0, 1, [], s.drop A, rfl, by omega, rfl, rfl, by simp, rfl, rfl, rfl, stp⟩ ?_
  rintro _ _ _ g u ⟨j, W, l, t, rfl, hj, hd, hl, htop, rfl, rfl, hW, e⟩
  have hWb : W ≤ 34359738368 := by rw [hW]; exact Nat.pow_le_pow_right (by decide) hj
  have hvb : valB l < W := by rw [hW, ← hl]; exact valB_lt l
  have hlen : s.length - A = l.length + t.length := by have := congrArg List.length hd; simpa using this
  refine ite (fun hlt => ?_) (fun hge => ?_)
  · refine rar (by omega) ?_
    refine ite (fun h5 => ?_) (fun h5 => bad' _ stp fun n => rdAt_none hd htop (.inl (by omega)) n)
    obtain ⟨c, t', rfl⟩ : ∃ c t', t = c :: t' := by
      cases t with
      | nil => simp at hlen; omega
      | cons c t' => exact ⟨c, t', rfl⟩
    have hget : s[A + j]? = some c := by
      rw [← List.getElem?_drop, hd, ← hl]; simp
    have hcm : c.toNat % 128 ≤ 127 := by omega
    have hprod : W * (c.toNat % 128) ≤ W * 127 := Nat.mul_le_mul_left _ hcm
    have hpe : (W : Int) * ((c.toNat : Int) % 128) = ((W * (c.toNat % 128) : Nat) : Int) := by push_cast; rfl
    have hc256 := c.toNat_lt
    have hvs : valB (l ++ [c]) = valB l + W * (c.toNat % 128) := by rw [valB_snoc, hl, hW]
    have hw1 : (128 : Int) * (W : Int) = ((128 ^ (j + 1) : Nat) : Int) := by rw [Nat.pow_succ, ← hW]; push_cast; omega
    have hw2 : 128 ^ (j + 1) = 128 * W := by rw [Nat.pow_succ, ← hW]; omega
    refine rsidx hget ?_
    refine rconvE (z := (c.toNat : Int)) (wrap_id (by omega) (by omega)) ?_
    refine rrem (by omega) (by omega) ?_
    refine rarE hpe (by omega) ?_
    refine rarE (y := ((valB (l ++ [c]) : Nat) : Int)) (by omega) (by omega) ?_
    refine rarE hw1 (by omega) ?_
    refine rsidx hget ?_
    refine ite (fun hc => ?_) (fun hc => ?_)
    · have hE : EndB (l ++ [c]) := EndB.snoc htop (by omega)
      have hd2 : s.drop A = (l ++ [c]) ++ t' := by rw [hd]; simp
      have hiff := rdAt_end hd2 hE
      by_cases hmx : valB (l ++ [c]) ≤ 2147483647
      case neg =>
        refine rcall (r01_Number_no (n := ((valB (l ++ [c]) : Nat) : Int)) (by omega)) ?_
        rintro _ u1 ⟨rfl, e1⟩
        refine ite (fun _ => bad' _ stp fun n hr => ?_) (fun h => absurd (by decide) h)
        have := (hiff n).1 hr
        omega
      refine rcall (r01_Number_ok (n := valB (l ++ [c])) hmx) ?_
      rintro _ u1 ⟨rfl, e1⟩
      refine ite (fun h => absurd rfl h) (fun _ => ?_)
      refine rar (by omega) ?_
      refine rssl (lo := A) (hi := A + j + 1) rfl (by congr 1) (by omega) (by rw [hsz]; omega) ?_
      refine rsne (fun hne => bad' _ stp fun n hr => ?_) (fun heq => ?_)
      · have h3 := (hiff n).1 hr
        refine hne ?_
        rw [txt_part, hd2, ← h3.2.1, h3.2.2]
        congr 1
        have : A + j + 1 - A = (l ++ [c]).length := by simp [hl]; omega
        rw [this, List.take_left]
      · rw [txt_part, hd2] at heq
        have h4 : A + j + 1 - A = (l ++ [c]).length := by simp [hl]; omega
        rw [h4, List.take_left] at heq
        have h5' : numB (valB (l ++ [c])) = l ++ [c] := by
          have := congrArg (fun b : ByteArray => b.data.toList) heq
          simpa using this
        have hln : (numB (valB (l ++ [c]))).length = j + 1 := by rw [h5']; simp [hl]
        refine rarE (y := ((A + (numB (valB (l ++ [c]))).length : Nat) : Int)) (by rw [hln]; omega) (by omega) ?_
        exact ⟨.inl ⟨A, valB (l ++ [c]), rfl, (hiff _).2 ⟨hmx, rfl, h5'⟩, rfl⟩, stp⟩
    · have hm : s.length - (Go.RowKit.intOf (.int .i64 ((A + (j + 1) : Nat) : Int))).toNat < s.length - (Go.RowKit.intOf (.int .i64 ((A + j : Nat) : Int))).toNat := by
        show s.length - ((A + (j + 1) : Nat) : Int).toNat < s.length - ((A + j : Nat) : Int).toNat
        omega
      refine rarE (y := ((A + (j + 1) : Nat) : Int)) (by omega) (by omega) ?_
      refine ⟨⟨j + 1, 128 ^ (j + 1), l ++ [c], t', rfl, by omega, by rw [hd]; simp, by simp [hl], fun x hx => ?_, rfl, rfl, rfl, stp⟩, hm⟩
      have q_ := List.mem_append.1 hx
      rcases q_ with hx | hx
      · exact htop x hx
      · rw [List.mem_singleton.1 hx]; omega
  · refine bad' _ stp fun n => rdAt_none hd htop (.inr ?_) n
    exact List.eq_nil_of_length_eq_zero (by omega)
end Go.W
namespace Go.W
open Go Go.Proofs
open Enc (enc)
set_option maxRecDepth 10000

/-- the bytes of several numbers; what is no number has none -/
def numsB (l : List Int) : List UInt8 := l.flatMap fun n => if 0 ≤ n ∧ n ≤ 2147483647 then numB n.toNat else []
theorem numsB_snoc (l : List Int) (n : Int) : numsB (l ++ [n]) = numsB l ++ if 0 ≤ n ∧ n ≤ 2147483647 then numB n.toNat else [] := by simp [numsB]
theorem numsB_take {l : List Int} {k : Nat} (h : k < l.length) : numsB (l.take (k + 1)) = numsB (l.take k) ++ if 0 ≤ l[k] ∧ l[k] ≤ 2147483647 then numB l[k].toNat else [] := by
  rw [take_add h, numsB_snoc]
theorem numsB_len (l : List Int) : (numsB l).length ≤ 5 * l.length := by
  induction l with
  | nil => simp [numsB]
  | cons n r ih =>
    have : numsB (n :: r) = (if 0 ≤ n ∧ n ≤ 2147483647 then numB n.toNat else []) ++ numsB r := by simp [numsB]
    rw [this, List.length_append, List.length_cons]
    split
    · have := numB_len (n := n.toNat) (by omega); omega
    · simp; omega
theorem txt_app (a b : List UInt8) : (⟨a.toArray⟩ : ByteArray) ++ ⟨b.toArray⟩ = ⟨(a ++ b).toArray⟩ := by
  apply ByteArray.ext
  rw [ByteArray.data_append]
  simp
theorem r01_Number_t {n : Int} {w : World} : Sp Try.prog F.r01_Number #[.int .i64 n] w fun v w' => (∃ e : Int, v = .tuple #[txt (if 0 ≤ n ∧ n ≤ 2147483647 then numB n.toNat else []), .int .i64 e]) ∧ Stp w w' :=
  r01_Number_sp.mono fun _ _ h1 => ⟨by
    rw [h1.1]; unfold numV
    split
    · exact ⟨0, rfl⟩
    · exact ⟨1, rfl⟩, h1.2⟩
theorem r22_numbers_sp {a : Option Addr} {n c : Nat} {l : List Int} {w : World} (h : SlF w (.slice a n c) l) (hn : l.length ≤ 1000000) :
    Sp Try.prog F.r22_numbers #[.slice a n c] w fun v w' => v = txt (numsB l) ∧ Stp w w' := by
  have q_ := h.len
  obtain rfl := q_
  refine en TBok rfl ?_
  refine cnt1 TBok 5 [] 3 4 l.length (fun k v u => v = txt (numsB (l.take k)) ∧ Stp w u) rfl rfl ⟨rfl, stp⟩ ?_
  rintro k _ g u hk ⟨rfl, e⟩
  refine ite (fun hlt => ?_) (fun hge => ?_)
  · have hka : k < l.length := by omega
    have hs := numsB_take hka
    have h1 := numsB_len (l.take (k + 1))
    rw [List.length_take] at h1
    refine rix (h.up (w' := u)) (x := l[k]) (by simp) fun b4 o4 A4 => rload1 (A4.cell0 rfl) ?_
    refine rcall (r01_Number_t (n := l[k])) ?_
    rintro _ u1 ⟨⟨e9, rfl⟩, e1⟩
    have hsz : (numsB (l.take k)).length + (if 0 ≤ l[k] ∧ l[k] ≤ 2147483647 then numB l[k].toNat else []).length ≤ 9223372036854775807 := by
      rw [hs, List.length_append] at h1; omega
    refine rsadd hsz ?_
    have hv : Value.string ((⟨(numsB (l.take k)).toArray⟩ : ByteArray) ++ ⟨(if 0 ≤ l[k] ∧ l[k] ≤ 2147483647 then numB l[k].toNat else []).toArray⟩) = txt (numsB (l.take (k + 1))) := by rw [txt_app, hs]
    exact rar (by omega) ⟨rfl, hka, hv, stp⟩
  · have q_ : k = l.length := by omega
    obtain rfl := q_
    have hv : txt (numsB (l.take l.length)) = txt (numsB l) := by rw [List.take_of_length_le (Nat.le_refl _)]
    exact ⟨hv, stp⟩
end Go.W
namespace Go.W
open Go Go.Proofs
open Enc (enc)
set_option maxRecDepth 10000

theorem bool_one (b : Bool) : ∀ u ∈ [Value.bool b], u.oneCell' = true := by intro u hu; simp at hu; subst hu; rfl
theorem int_one (x : Int) : ∀ u ∈ [Value.int .i64 x], u.oneCell' = true := by intro u hu; simp at hu; subst hu; rfl
theorem r22_cut_number_sp {s : List UInt8} {a : Int} {bad : Bool} {b : Nat} {w : World} (B : Bk w b [txt s, .int .i64 a, .bool bad] E.waysideref22_cut) (hs : s.length ≤ 1000000000) :
    Sp Try.prog F.r22_cut_number #[.pointer (some ⟨b, 0, none⟩)] w fun v w' =>
      ((∃ A n : Nat, a = (A : Int) ∧ RdAt s A n ∧ v = .int .i64 (n : Int) ∧ Bk w' b [txt s, .int .i64 ((A + (numB n).length : Nat) : Int), .bool bad] E.waysideref22_cut) ∨
      ((∀ A n : Nat, a = (A : Int) → ¬ RdAt s A n) ∧ v = .int .i64 0 ∧ Bk w' b [txt s, .int .i64 a, .bool true] E.waysideref22_cut)) ∧ Fr (fun i => i = b) w w' := by
  refine en TBok rfl ?_
  refine drawR TBok mixed (fun _ => False) (upF 16 0) (by kernel_rfl) fun u1 e1 _ => ?_
  refine tld (B := B) rfl not_false ?_
  refine tld (B := B) rfl not_false ?_
  refine rcall (r01_ReadNumber_sp (a := a) hs) ?_
  rintro v u2 ⟨⟨A, n, rfl, hr, rfl⟩ | ⟨hno, rfl⟩, e2⟩
  · refine ⟨e2.e, ?_⟩
    have B2 := B.mv (w := u2)
    have F2 : Fr (fun i => i = b) w u2 := Fr.fr (Le.e (a := w) (b := u2))
    refine rld (B := B2) rfl ?_
    cases bad
    all_goals
      refine rsto (B := B2) (vs := [.bool _]) rfl rfl rfl (bool_one _) fun u3 B3 f3 _ => ?_
      refine rsto (B := B3) (vs := [.int .i64 _]) rfl rfl rfl (int_one _) fun u4 B4 f4 _ => ?_
      exact ⟨.inl ⟨A, n, rfl, hr, rfl, B4⟩, (F2.trans f3).trans f4⟩
  · refine ⟨e2.e, ?_⟩
    have B2 := B.mv (w := u2)
    have F2 : Fr (fun i => i = b) w u2 := Fr.fr (Le.e (a := w) (b := u2))
    refine rld (B := B2) rfl ?_
    cases bad
    all_goals
      refine rsto (B := B2) (vs := [.bool _]) rfl rfl rfl (bool_one _) fun u3 B3 f3 _ => ?_
      exact ⟨.inr ⟨hno, rfl, B3⟩, F2.trans f3⟩
end Go.W
namespace Go.W
open Go Go.Proofs
open Enc (enc)
set_option maxRecDepth 10000

structure AnsD where
  found : Bool
  num : Int
  s : SV
structure RepD where
  id : Int
  code : Int
  a : AnsD
instance : Enc AnsD := ⟨3, fun x => [.bool x.found, .int .i64 x.num, .slice x.s.a x.s.n x.s.c], fun _ => rfl, by intro x u hu; simp at hu; rcases hu with rfl | rfl | rfl <;> rfl, by decide⟩
instance : Enc RepD := ⟨5, fun x => [.int .i64 x.id, .int .i64 x.code, .bool x.a.found, .int .i64 x.a.num, .slice x.a.s.a x.a.s.n x.a.s.c], fun _ => rfl, by intro x u hu; simp at hu; rcases hu with rfl | rfl | rfl | rfl | rfl <;> rfl, by decide⟩
theorem r18_Same_sp {x y : AnsD} {lx ly : List HitD} {w : World} (hx : SlF w (.slice x.s.a x.s.n x.s.c) lx) (hy : SlF w (.slice y.s.a y.s.n y.s.c) ly) (hn : lx.length ≤ 1000000) :
    Sp Try.prog F.r18_Same #[agg x, agg y] w fun v w' => Tells (x.found = y.found ∧ x.num = y.num ∧ lx = ly) v ∧ Stp w w' := by
  refine en TBok rfl ?_
  refine rbx fun b1 w1 n1 B1 => ?_
  refine rbx fun b2 w2 n2 B2 => ?_
  refine rld (B := B1) rfl ?_
  refine rld (B := B2) rfl ?_
  refine rbeq (fun h1 => ?_) (fun h1 => ⟨.f (fun e => h1 e.1), stp⟩)
  refine rld (B := B1) rfl ?_
  refine rld (B := B2) rfl ?_
  refine ite (fun h2 => ?_) (fun h2 => ⟨.f (fun e => h2 e.2.1), stp⟩)
  refine rld (B := B1) rfl ?_
  refine rld (B := B2) rfl ?_
  refine rcall (r09_Same_sp (hx.up (w' := w2)) (hy.up (w' := w2)) hn) ?_
  rintro v w3 ⟨⟨rfl, h3⟩ | ⟨rfl, h3⟩, e3⟩
  · exact ⟨.t ⟨h1, h2, h3⟩, stp⟩
  · exact ⟨.f (fun e => h3 e.2.2), stp⟩
end Go.W
namespace Go.W
open Go Go.Proofs
open Enc (enc)
set_option maxRecDepth 10000

/-- a reply is right -/
def HitOk (h : HitD) : Prop := 0 ≤ h.v ∧ h.v < 200 ∧ 0 ≤ h.d ∧ h.d ≤ 200
def RepOk (x : RepD) (l : List HitD) : Prop :=
  (0 ≤ x.id ∧ x.id ≤ 2147483647) ∧ (0 ≤ x.code ∧ x.code ≤ 1000) ∧ (0 ≤ x.a.num ∧ x.a.num ≤ 400) ∧ l.length ≤ 100 ∧
  (x.code ≠ 0 → x.a.found = false ∧ x.a.num = 0 ∧ l = []) ∧ (x.a.found = false → x.a.num = 0 ∧ l = []) ∧ (l = [] ∨ x.a.num = 0) ∧ ∀ h ∈ l, HitOk h
theorem r22_number_sp {n : Int} {w : World} : Sp Try.prog F.r22_number #[.int .i64 n] w fun v w' => Tells (0 ≤ n ∧ n ≤ 2147483647) v ∧ w' = w := by
  refine en TBok rfl ?_
  refine ite (fun h1 => ?_) (fun h1 => ⟨.f (fun e => h1 e.1), rfl⟩)
  refine ite (fun h2 => ⟨.t ⟨h1, h2⟩, rfl⟩) (fun h2 => ⟨.f (fun e => h2 e.2), rfl⟩)
set_option maxHeartbeats 2000000 in
theorem r22_Reply_sp {x : RepD} {l : List HitD} {w : World} (h : SlF w (.slice x.a.s.a x.a.s.n x.a.s.c) l) (hn : l.length ≤ 1000000) :
    Sp Try.prog F.r22_Reply #[agg x] w fun v w' => Tells (RepOk x l) v ∧ Stp w w' := by
  obtain ⟨id, code, fd, num, sa, sn, sc⟩ := x
  have hlen : sn = l.length := h.len
  have no : ∀ u : World, Stp w u → ¬ RepOk ⟨id, code, fd, num, sa, sn, sc⟩ l → Tells (RepOk ⟨id, code, fd, num, sa, sn, sc⟩ l) (.bool false) ∧ Stp w u := fun u s hf => ⟨.f hf, s⟩
  have l0 : l.length = 0 → l = [] := List.eq_nil_of_length_eq_zero
  refine en TBok rfl ?_
  refine rbx fun b1 w1 n1 B1 => ?_
  refine rldG (ds := enc (⟨fd, num, sa, sn, sc⟩ : AnsD)) (B := B1) rfl rfl ?_
  refine ral fun b2 w2 n2 z2 => ?_
  refine rsto (B := z2) (vs := enc (⟨fd, num, sa, sn, sc⟩ : AnsD)) rfl rfl rfl (Enc.one _) fun w3 B3 f3 _ => ?_
  have s3 : Stp w1 w3 := ⟨Fr.st Le.e f3 fun i hi => by subst hi; exact n2.lo⟩
  have B2 : Bk w3 b2 [.bool fd, .int .i64 num, .slice sa sn sc] E.api_Answer := B3
  have B1 := B1.mv (w := w3)
  clear B3 z2 f3
  refine rld (B := B1) rfl ?_
  refine rcall (r22_number_sp (n := id)) ?_
  rintro v w4 ⟨⟨rfl, h1⟩ | ⟨rfl, h1⟩, rfl⟩
  case' inr => exact no _ stp fun e => h1 e.1
  refine rld (B := B1) rfl ?_
  refine ite (fun h => no _ stp fun e => by have h' : code < 0 := h; have h'' : 0 ≤ code := e.2.1.1; omega) (fun h2 => ?_)
  refine rld (B := B1) rfl ?_
  refine ite (fun h => no _ stp fun e => by have h' : 1000 < code := h; have h'' : code ≤ 1000 := e.2.1.2; omega) (fun h3 => ?_)
  have k2 : 0 ≤ code := by have h' : ¬ code < 0 := h2; omega
  have k3 : code ≤ 1000 := by have h' : ¬ 1000 < code := h3; omega
  refine rld (B := B2) rfl ?_
  refine ite (fun h => no _ stp fun e => absurd h (by have := e.2.2.1.1; dsimp only at this; omega)) (fun h4 => ?_)
  refine rld (B := B2) rfl ?_
  refine ite (fun h => no _ stp fun e => absurd h (by have := e.2.2.1.2; dsimp only at this; omega)) (fun h5 => ?_)
  refine rld (B := B2) rfl ?_
  refine ite (fun h => no _ stp fun e => absurd h (by have := e.2.2.2.1; omega)) (fun h6 => ?_)
  refine rld (B := B1) rfl ?_
  refine ite (fun hc => ?pp) (fun hc => ?qq)
  case' pp =>
    refine rldG (ds := enc (⟨fd, num, sa, sn, sc⟩ : AnsD)) (B := B2) rfl rfl ?_
    refine rbuild (cs := enc (⟨false, 0, none, 0, 0⟩ : AnsD)) rfl ?_
    refine rcall (r18_Same_sp (x := ⟨fd, num, sa, sn, sc⟩) (y := ⟨false, 0, none, 0, 0⟩) (ly := []) (h.up (w' := w4)) (SlF.nil _) hn) ?_
    rintro v w5 ⟨⟨rfl, hz⟩ | ⟨rfl, hz⟩, e5⟩
    case' inr => exact no _ stp fun e => hz (e.2.2.2.2.1 hc)
    have hcode : code ≠ 0 → fd = false ∧ num = 0 ∧ l = [] := fun _ => hz
  case' qq =>
    have hcode : code ≠ 0 → fd = false ∧ num = 0 ∧ l = [] := fun h => absurd h hc
  all_goals
    refine rld (B := B2) rfl ?_
    cases fd
    · refine rld (B := B2) rfl ?_
      refine ite (fun hq => no _ stp fun e => hq (e.2.2.2.2.2.1 rfl).1) (fun hz => ?_)
      have hz0 : num = 0 := Classical.not_not.1 hz
      refine rld (B := B2) rfl ?_
      refine ite (fun hq => no _ stp fun e => by have h' := (e.2.2.2.2.2.1 rfl).2; rw [h'] at hlen; simp at hlen; omega) (fun hl0 => ?_)
      have hle : l = [] := l0 (by omega)
      refine rld (B := B2) rfl ?_
      refine ite (fun hq => absurd hq hl0) (fun _ => ?_)
      refine cnt TBok 5 [2] 4 l.length (fun i u => (∀ y ∈ l.take i, HitOk y) ∧ Stp w4 u) rfl rfl ⟨by simp, stp⟩ ?_
      rintro i g u hi ⟨hall, e9⟩
      refine rld (B := B2) rfl ?_
      refine ite (fun hlt => ?_) (fun hge => ?_)
      · have hka : i < l.length := by omega
        have q_ : ∃ y, l[i]? = some y := ⟨_, List.getElem?_eq_getElem hka⟩
        obtain ⟨y, hy⟩ := q_
        have hyl : y ∈ l := List.mem_of_getElem? hy
        have htk : l.take (i + 1) = l.take i ++ [y] := by
          rw [take_add hka]
          rw [List.getElem?_eq_getElem hka] at hy
          cases hy; rfl
        refine rld (B := B2) rfl ?_
        refine rix (h.up (w' := u)) (x := y) hy fun b7 o7 A7 => rloadA A7 rfl ?_
        refine ral fun b8 w8 n8 z8 => ?_
        refine rsto (B := z8) (vs := enc y) rfl rfl rfl (Enc.one _) fun w9 B9 f9 _ => ?_
        have s9 : Stp u w9 := ⟨Fr.st Le.e f9 fun i hi => by subst hi; exact n8.lo⟩
        have BH : Bk w9 b8 [.int .i64 y.v, .int .i64 y.d] E.api_Hit := B9
        clear B9 z8 f9
        refine rld (B := BH) rfl ?_
        refine ite (fun hb => no _ stp fun e => by have := (e.2.2.2.2.2.2.2 y hyl).1; omega) (fun q1 => ?_)
        refine rld (B := BH) rfl ?_
        refine ite (fun hb => no _ stp fun e => by have := (e.2.2.2.2.2.2.2 y hyl).2.1; omega) (fun q2 => ?_)
        refine rld (B := BH) rfl ?_
        refine ite (fun hb => no _ stp fun e => by have := (e.2.2.2.2.2.2.2 y hyl).2.2.1; omega) (fun q3 => ?_)
        refine rld (B := BH) rfl ?_
        refine ite (fun hb => no _ stp fun e => by have := (e.2.2.2.2.2.2.2 y hyl).2.2.2; omega) (fun q4 => ?_)
        refine rar (by omega) ⟨rfl, hka, fun t ht => ?_, stp⟩
        rw [htk] at ht
        have q_ := List.mem_append.1 ht
        rcases q_ with ht | ht
        · exact hall t ht
        · rw [List.mem_singleton.1 ht]; exact ⟨by omega, by omega, by omega, by omega⟩
      · have q_ : i = l.length := by omega
        obtain rfl := q_
        rw [List.take_of_length_le (Nat.le_refl _)] at hall
        exact ⟨.t ⟨h1, ⟨k2, k3⟩, ⟨by have h' : ¬ num < 0 := h4; show 0 ≤ num; omega, by have h' : ¬ 400 < num := h5; show num ≤ 400; omega⟩, by omega, hcode, fun _ => ⟨hz0, hle⟩, .inl hle, hall⟩, stp⟩
    · refine rld (B := B2) rfl ?_
      refine ite (fun hl1 => ?_) (fun hl1 => ?_)
      · refine rld (B := B2) rfl ?_
        refine ite (fun hq => no _ stp fun e => ?_) (fun hq => ?_)
        · have q_ := e.2.2.2.2.2.2.1
          rcases q_ with h' | h'
          · rw [h'] at hlen; simp at hlen; omega
          · exact hq h'
        have hz0 : num = 0 := Classical.not_not.1 hq
        refine cnt TBok 5 [2] 4 l.length (fun i u => (∀ y ∈ l.take i, HitOk y) ∧ Stp w4 u) rfl rfl ⟨by simp, stp⟩ ?_
        rintro i g u hi ⟨hall, e9⟩
        refine rld (B := B2) rfl ?_
        refine ite (fun hlt => ?_) (fun hge => ?_)
        · have hka : i < l.length := by omega
          have q_ : ∃ y, l[i]? = some y := ⟨_, List.getElem?_eq_getElem hka⟩
          obtain ⟨y, hy⟩ := q_
          have hyl : y ∈ l := List.mem_of_getElem? hy
          have htk : l.take (i + 1) = l.take i ++ [y] := by
            rw [take_add hka]
            rw [List.getElem?_eq_getElem hka] at hy
            cases hy; rfl
          refine rld (B := B2) rfl ?_
          refine rix (h.up (w' := u)) (x := y) hy fun b7 o7 A7 => rloadA A7 rfl ?_
          refine ral fun b8 w8 n8 z8 => ?_
          refine rsto (B := z8) (vs := enc y) rfl rfl rfl (Enc.one _) fun w9 B9 f9 _ => ?_
          have s9 : Stp u w9 := ⟨Fr.st Le.e f9 fun i hi => by subst hi; exact n8.lo⟩
          have BH : Bk w9 b8 [.int .i64 y.v, .int .i64 y.d] E.api_Hit := B9
          clear B9 z8 f9
          refine rld (B := BH) rfl ?_
          refine ite (fun hb => no _ stp fun e => by have := (e.2.2.2.2.2.2.2 y hyl).1; omega) (fun q1 => ?_)
          refine rld (B := BH) rfl ?_
          refine ite (fun hb => no _ stp fun e => by have := (e.2.2.2.2.2.2.2 y hyl).2.1; omega) (fun q2 => ?_)
          refine rld (B := BH) rfl ?_
          refine ite (fun hb => no _ stp fun e => by have := (e.2.2.2.2.2.2.2 y hyl).2.2.1; omega) (fun q3 => ?_)
          refine rld (B := BH) rfl ?_
          refine ite (fun hb => no _ stp fun e => by have := (e.2.2.2.2.2.2.2 y hyl).2.2.2; omega) (fun q4 => ?_)
          refine rar (by omega) ⟨rfl, hka, fun t ht => ?_, stp⟩
          rw [htk] at ht
          have q_ := List.mem_append.1 ht
          rcases q_ with ht | ht
          · exact hall t ht
          · rw [List.mem_singleton.1 ht]; exact ⟨by omega, by omega, by omega, by omega⟩
        · have q_ : i = l.length := by omega
          obtain rfl := q_
          rw [List.take_of_length_le (Nat.le_refl _)] at hall
          exact ⟨.t ⟨h1, ⟨k2, k3⟩, ⟨by have h' : ¬ num < 0 := h4; show 0 ≤ num; omega, by have h' : ¬ 400 < num := h5; show num ≤ 400; omega⟩, by omega, hcode, fun h => (by cases h), .inr hz0, hall⟩, stp⟩
      · have hle : l = [] := l0 (by omega)
        refine cnt TBok 5 [2] 4 l.length (fun i u => (∀ y ∈ l.take i, HitOk y) ∧ Stp w4 u) rfl rfl ⟨by simp, stp⟩ ?_
        rintro i g u hi ⟨hall, e9⟩
        refine rld (B := B2) rfl ?_
        refine ite (fun hlt => ?_) (fun hge => ?_)
        · have hka : i < l.length := by omega
          have q_ : ∃ y, l[i]? = some y := ⟨_, List.getElem?_eq_getElem hka⟩
          obtain ⟨y, hy⟩ := q_
          have hyl : y ∈ l := List.mem_of_getElem? hy
          have htk : l.take (i + 1) = l.take i ++ [y] := by
            rw [take_add hka]
            rw [List.getElem?_eq_getElem hka] at hy
            cases hy; rfl
          refine rld (B := B2) rfl ?_
          refine rix (h.up (w' := u)) (x := y) hy fun b7 o7 A7 => rloadA A7 rfl ?_
          refine ral fun b8 w8 n8 z8 => ?_
          refine rsto (B := z8) (vs := enc y) rfl rfl rfl (Enc.one _) fun w9 B9 f9 _ => ?_
          have s9 : Stp u w9 := ⟨Fr.st Le.e f9 fun i hi => by subst hi; exact n8.lo⟩
          have BH : Bk w9 b8 [.int .i64 y.v, .int .i64 y.d] E.api_Hit := B9
          clear B9 z8 f9
          refine rld (B := BH) rfl ?_
          refine ite (fun hb => no _ stp fun e => by have := (e.2.2.2.2.2.2.2 y hyl).1; omega) (fun q1 => ?_)
          refine rld (B := BH) rfl ?_
          refine ite (fun hb => no _ stp fun e => by have := (e.2.2.2.2.2.2.2 y hyl).2.1; omega) (fun q2 => ?_)
          refine rld (B := BH) rfl ?_
          refine ite (fun hb => no _ stp fun e => by have := (e.2.2.2.2.2.2.2 y hyl).2.2.1; omega) (fun q3 => ?_)
          refine rld (B := BH) rfl ?_
          refine ite (fun hb => no _ stp fun e => by have := (e.2.2.2.2.2.2.2 y hyl).2.2.2; omega) (fun q4 => ?_)
          refine rar (by omega) ⟨rfl, hka, fun t ht => ?_, stp⟩
          rw [htk] at ht
          have q_ := List.mem_append.1 ht
          rcases q_ with ht | ht
          · exact hall t ht
          · rw [List.mem_singleton.1 ht]; exact ⟨by omega, by omega, by omega, by omega⟩
        · have q_ : i = l.length := by omega
          obtain rfl := q_
          rw [List.take_of_length_le (Nat.le_refl _)] at hall
          exact ⟨.t ⟨h1, ⟨k2, k3⟩, ⟨by have h' : ¬ num < 0 := h4; show 0 ≤ num; omega, by have h' : ¬ 400 < num := h5; show num ≤ 400; omega⟩, by omega, hcode, fun h => (by cases h), .inl hle, hall⟩, stp⟩
end Go.W
namespace Go.W
open Go Go.Proofs
open Enc (enc)
set_option maxRecDepth 10000

/-- a reply's bytes -/
def hitsB (l : List HitD) : List UInt8 := l.flatMap fun h => numsB [h.v, h.d]
def encR (x : RepD) (l : List HitD) : List UInt8 := numsB [x.id, x.code] ++ if x.code ≠ 0 then [] else numsB [if x.a.found then 1 else 0, x.a.num, (l.length : Int)] ++ hitsB l
theorem hitsB_take {l : List HitD} {k : Nat} {y : HitD} (h : l[k]? = some y) : hitsB (l.take (k + 1)) = hitsB (l.take k) ++ numsB [y.v, y.d] := by
  have hk := (List.getElem?_eq_some_iff.1 h).1
  have : l.take (k + 1) = l.take k ++ [y] := by
    rw [take_add hk]; rw [List.getElem?_eq_getElem hk] at h; cases h; rfl
  rw [this]; simp [hitsB]
theorem hitsB_len (l : List HitD) : (hitsB l).length ≤ 10 * l.length := by
  induction l with
  | nil => simp [hitsB]
  | cons h r ih =>
    have e : hitsB (h :: r) = numsB [h.v, h.d] ++ hitsB r := by simp [hitsB]
    have := numsB_len [h.v, h.d]
    rw [e, List.length_append, List.length_cons]
    simp at this; omega
theorem ints_one (l : List Int) : (l.map (Value.int .i64)).map (fun v => v.cells.toList) = l.map enc := by rw [List.map_map]; rfl
set_option maxHeartbeats 1000000 in
theorem r22_PutReply_sp {x : RepD} {l : List HitD} {w : World} (h : SlF w (.slice x.a.s.a x.a.s.n x.a.s.c) l) (hn : l.length ≤ 1000000) :
    Sp Try.prog F.r22_PutReply #[agg x] w fun v w' => ((RepOk x l ∧ v = .tuple #[txt (encR x l), .int .i64 0]) ∨ (¬ RepOk x l ∧ v = .tuple #[txt [], .int .i64 1])) ∧ Stp w w' := by
  obtain ⟨id, code, fd, num, sa, sn, sc⟩ := x
  have hlen : sn = l.length := h.len
  refine en TBok rfl ?_
  refine rbx fun b1 w1 n1 B1 => ?_
  refine rldG (ds := enc (⟨id, code, fd, num, sa, sn, sc⟩ : RepD)) (B := B1) rfl rfl ?_
  refine rcall (r22_Reply_sp (x := ⟨id, code, fd, num, sa, sn, sc⟩) (h.up (w' := w1)) hn) ?_
  rintro v w2 ⟨⟨rfl, hok⟩ | ⟨rfl, hok⟩, e2⟩
  case' inr => exact ⟨.inr ⟨hok, rfl⟩, stp⟩
  refine rld (B := B1) rfl ?_
  refine rld (B := B1) rfl ?_
  refine rbs (α := Int) [id, code] rfl (vs := [.int .i64 id, .int .i64 code]) rfl rfl (by decide) fun b3 w3 n3 S3 => ?_
  have s3 : Stp w2 w3 := ⟨n3.ext⟩
  refine rcall (r22_numbers_sp S3 (by simp)) ?_
  rintro v w4 ⟨rfl, e4⟩
  refine rld (B := B1) rfl ?_
  refine ite (fun hc => ?_) (fun hc => ?_)
  · have hv : txt (numsB [id, code]) = txt (encR ⟨id, code, fd, num, sa, sn, sc⟩ l) := by
      unfold encR; rw [if_pos hc, List.append_nil]
    have hv2 : Value.tuple #[txt (numsB [id, code]), .int .i64 0] = .tuple #[txt (encR ⟨id, code, fd, num, sa, sn, sc⟩ l), .int .i64 0] := by rw [hv]
    exact ⟨.inl ⟨hok, hv2⟩, stp⟩
  refine rld (B := B1) rfl ?_
  cases fd
  · refine rld (B := B1) rfl ?_
    refine rld (B := B1) rfl ?_
    refine rbs (α := Int) [0, num, (sn : Int)] rfl (vs := [.int .i64 0, .int .i64 num, .int .i64 (sn : Int)]) rfl rfl (by decide) fun b5 w5 n5 S5 => ?_
    have s5 : Stp w4 w5 := ⟨n5.ext⟩
    refine rcall (r22_numbers_sp S5 (by simp)) ?_
    rintro v w6 ⟨rfl, e6⟩
    have q1 := numsB_len [id, code]
    have q2 := numsB_len [0, num, (sn : Int)]
    simp only [List.length_cons, List.length_nil] at q1 q2
    refine rsadd (a := ⟨(numsB [id, code]).toArray⟩) (b := ⟨(numsB [0, num, (sn : Int)]).toArray⟩) (by show (numsB [id, code]).length + (numsB [0, num, (sn : Int)]).length ≤ _; omega) ?_
    have hv0 : Value.string ((⟨(numsB [id, code]).toArray⟩ : ByteArray) ++ ⟨(numsB [0, num, (sn : Int)]).toArray⟩) = txt (numsB [id, code] ++ numsB [0, num, (sn : Int)] ++ hitsB (l.take 0)) := by rw [txt_app]; simp [hitsB]
    refine cnt1 TBok 7 [] 4 6 l.length (fun k v u => v = txt (numsB [id, code] ++ numsB [0, num, (sn : Int)] ++ hitsB (l.take k)) ∧ Stp w6 u) rfl rfl ⟨hv0, stp⟩ ?_
    rintro k _ g u hk ⟨rfl, e7⟩
    refine rld (B := B1) rfl ?_
    refine ite (fun hlt => ?_) (fun hge => ?_)
    · have hka : k < l.length := by have hlt' : (k : Int) < (sn : Int) := hlt; omega
      have q_ : ∃ y, l[k]? = some y := ⟨_, List.getElem?_eq_getElem hka⟩
      obtain ⟨y, hy⟩ := q_
      refine rld (B := B1) rfl ?_
      refine rix (h.up (w' := u)) (x := y) hy fun b7 o7 A7 => rloadA A7 rfl ?_
      refine ral fun b8 w8 n8 z8 => ?_
      refine rsto (B := z8) (vs := enc y) rfl rfl rfl (Enc.one _) fun w9 B9 f9 _ => ?_
      have s9 : Stp u w9 := ⟨Fr.st Le.e f9 fun i hi => by subst hi; exact n8.lo⟩
      have BH : Bk w9 b8 [.int .i64 y.v, .int .i64 y.d] E.api_Hit := B9
      clear B9 z8 f9
      refine rld (B := BH) rfl ?_
      refine rld (B := BH) rfl ?_
      refine rbs (α := Int) [y.v, y.d] rfl (vs := [.int .i64 y.v, .int .i64 y.d]) rfl rfl (by decide) fun b10 w10 n10 S10 => ?_
      have s10 : Stp w9 w10 := ⟨n10.ext⟩
      refine rcall (r22_numbers_sp S10 (by simp)) ?_
      rintro v w11 ⟨rfl, e11⟩
      have q3 := numsB_len [y.v, y.d]
      have q4 := hitsB_len (l.take k)
      simp only [List.length_cons, List.length_nil, List.length_take] at q3 q4
      refine rsadd (b := ⟨(numsB [y.v, y.d]).toArray⟩) (by show (numsB [id, code] ++ numsB [0, num, (sn : Int)] ++ hitsB (l.take k)).length + (numsB [y.v, y.d]).length ≤ _; rw [List.length_append, List.length_append]; omega) ?_
      have hv : Value.string ((⟨(numsB [id, code] ++ numsB [0, num, (sn : Int)] ++ hitsB (l.take k)).toArray⟩ : ByteArray) ++ ⟨(numsB [y.v, y.d]).toArray⟩) = txt (numsB [id, code] ++ numsB [0, num, (sn : Int)] ++ hitsB (l.take (k + 1))) := by rw [txt_app, hitsB_take hy]; simp only [List.append_assoc]
      exact rar (by omega) ⟨rfl, hka, hv, stp⟩
    · have hge' : ¬ (k : Int) < (sn : Int) := hge
      have q_ : k = l.length := by omega
      obtain rfl := q_
      have hv2 : Value.tuple #[txt (numsB [id, code] ++ numsB [0, num, (sn : Int)] ++ hitsB (l.take l.length)), .int .i64 0] = .tuple #[txt (encR ⟨id, code, false, num, sa, sn, sc⟩ l), .int .i64 0] := by
        rw [List.take_of_length_le (Nat.le_refl _)]
        unfold encR
        rw [if_neg hc, hlen, List.append_assoc]; rfl
      exact ⟨.inl ⟨hok, hv2⟩, stp⟩
  · refine rld (B := B1) rfl ?_
    refine rld (B := B1) rfl ?_
    refine rbs (α := Int) [1, num, (sn : Int)] rfl (vs := [.int .i64 1, .int .i64 num, .int .i64 (sn : Int)]) rfl rfl (by decide) fun b5 w5 n5 S5 => ?_
    have s5 : Stp w4 w5 := ⟨n5.ext⟩
    refine rcall (r22_numbers_sp S5 (by simp)) ?_
    rintro v w6 ⟨rfl, e6⟩
    have q1 := numsB_len [id, code]
    have q2 := numsB_len [1, num, (sn : Int)]
    simp only [List.length_cons, List.length_nil] at q1 q2
    refine rsadd (a := ⟨(numsB [id, code]).toArray⟩) (b := ⟨(numsB [1, num, (sn : Int)]).toArray⟩) (by show (numsB [id, code]).length + (numsB [1, num, (sn : Int)]).length ≤ _; omega) ?_
    have hv0 : Value.string ((⟨(numsB [id, code]).toArray⟩ : ByteArray) ++ ⟨(numsB [1, num, (sn : Int)]).toArray⟩) = txt (numsB [id, code] ++ numsB [1, num, (sn : Int)] ++ hitsB (l.take 0)) := by rw [txt_app]; simp [hitsB]
    refine cnt1 TBok 7 [] 4 6 l.length (fun k v u => v = txt (numsB [id, code] ++ numsB [1, num, (sn : Int)] ++ hitsB (l.take k)) ∧ Stp w6 u) rfl rfl ⟨hv0, stp⟩ ?_
    rintro k _ g u hk ⟨rfl, e7⟩
    refine rld (B := B1) rfl ?_
    refine ite (fun hlt => ?_) (fun hge => ?_)
    · have hka : k < l.length := by have hlt' : (k : Int) < (sn : Int) := hlt; omega
      have q_ : ∃ y, l[k]? = some y := ⟨_, List.getElem?_eq_getElem hka⟩
      obtain ⟨y, hy⟩ := q_
      refine rld (B := B1) rfl ?_
      refine rix (h.up (w' := u)) (x := y) hy fun b7 o7 A7 => rloadA A7 rfl ?_
      refine ral fun b8 w8 n8 z8 => ?_
      refine rsto (B := z8) (vs := enc y) rfl rfl rfl (Enc.one _) fun w9 B9 f9 _ => ?_
      have s9 : Stp u w9 := ⟨Fr.st Le.e f9 fun i hi => by subst hi; exact n8.lo⟩
      have BH : Bk w9 b8 [.int .i64 y.v, .int .i64 y.d] E.api_Hit := B9
      clear B9 z8 f9
      refine rld (B := BH) rfl ?_
      refine rld (B := BH) rfl ?_
      refine rbs (α := Int) [y.v, y.d] rfl (vs := [.int .i64 y.v, .int .i64 y.d]) rfl rfl (by decide) fun b10 w10 n10 S10 => ?_
      have s10 : Stp w9 w10 := ⟨n10.ext⟩
      refine rcall (r22_numbers_sp S10 (by simp)) ?_
      rintro v w11 ⟨rfl, e11⟩
      have q3 := numsB_len [y.v, y.d]
      have q4 := hitsB_len (l.take k)
      simp only [List.length_cons, List.length_nil, List.length_take] at q3 q4
      refine rsadd (b := ⟨(numsB [y.v, y.d]).toArray⟩) (by show (numsB [id, code] ++ numsB [1, num, (sn : Int)] ++ hitsB (l.take k)).length + (numsB [y.v, y.d]).length ≤ _; rw [List.length_append, List.length_append]; omega) ?_
      have hv : Value.string ((⟨(numsB [id, code] ++ numsB [1, num, (sn : Int)] ++ hitsB (l.take k)).toArray⟩ : ByteArray) ++ ⟨(numsB [y.v, y.d]).toArray⟩) = txt (numsB [id, code] ++ numsB [1, num, (sn : Int)] ++ hitsB (l.take (k + 1))) := by rw [txt_app, hitsB_take hy]; simp only [List.append_assoc]
      exact rar (by omega) ⟨rfl, hka, hv, stp⟩
    · have hge' : ¬ (k : Int) < (sn : Int) := hge
      have q_ : k = l.length := by omega
      obtain rfl := q_
      have hv2 : Value.tuple #[txt (numsB [id, code] ++ numsB [1, num, (sn : Int)] ++ hitsB (l.take l.length)), .int .i64 0] = .tuple #[txt (encR ⟨id, code, true, num, sa, sn, sc⟩ l), .int .i64 0] := by
        rw [List.take_of_length_le (Nat.le_refl _)]
        unfold encR
        rw [if_neg hc, hlen, List.append_assoc]; rfl
      exact ⟨.inl ⟨hok, hv2⟩, stp⟩
end Go.W
