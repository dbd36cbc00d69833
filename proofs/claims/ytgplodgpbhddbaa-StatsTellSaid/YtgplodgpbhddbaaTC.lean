/-
  Proved here: the program reads a number of a text; the program's frame reader: numbers, bounds, the end; what is none is thrown; is a reply right? (the program's); the program writes a number as its bytes; the program writes a reply.
  Conditions: those that each fact names.
-/
import Derived.Test.YtgplodgpbhddbaaTB
import Derived.Test.YtgplodgpbhddbaaW30
import Derived.Test.YtgplodgpbhddbaaW32
import Derived.Test.YtgplodgpbhddbaaSortB
namespace Go.W
open Go Go.Proofs
open Enc (enc)
set_option maxRecDepth 10000

theorem oneB_snoc : ∀ {l : List UInt8} {c : UInt8}, (∀ x ∈ l, 128 ≤ x.toNat) → c.toNat < 128 → (OneB (l ++ [c]) ↔ (l = [] ∨ c.toNat ≠ 0))
  | [], c, _, hc => by simp [OneB, hc]
  | [d], c, h, hc => by
    have hd := h d List.mem_cons_self
    simp [OneB, hc, hd]
  | d :: e :: r, c, h, hc => by
    have ih := oneB_snoc (l := e :: r) (fun x hx => h x (List.mem_cons_of_mem _ hx)) hc
    have hd := h d List.mem_cons_self
    show (128 ≤ d.toNat ∧ OneB (e :: (r ++ [c])) ∧ (r ++ [c] = [] → e.toNat ≠ 0)) ↔ _
    rw [show e :: (r ++ [c]) = (e :: r) ++ [c] from rfl, ih]
    simp [hd]
theorem rdAt_snoc {s l t : List UInt8} {a : Nat} {c : UInt8} (hd : s.drop a = l ++ c :: t) (hl : ∀ x ∈ l, 128 ≤ x.toNat) (hc : c.toNat < 128) (n : Nat) : RdAt s a n ↔ (n = valB (l ++ [c]) ∧ n ≤ 2147483647 ∧ (l = [] ∨ c.toNat ≠ 0)) := by
  have hd2 : s.drop a = (l ++ [c]) ++ t := by rw [hd]; simp
  rw [rdAt_end hd2 (EndB.snoc hl hc) n, ← oneB_snoc hl hc]
  constructor
  · rintro ⟨h1, h2, h3⟩; exact ⟨h2, h1, by rw [← h3]; exact numB_one n⟩
  · rintro ⟨h1, h2, h3⟩; exact ⟨h2, h1, by rw [h1]; exact numB_of h3⟩
theorem pow7 (k : Nat) : (2 : Nat) ^ (7 * k) = 128 ^ k := by rw [Nat.pow_mul]
set_option maxHeartbeats 1000000 in
theorem wire_reader_number_sp {s : List UInt8} {a : Int} {b : Nat} {w : World} (B : Bk w b [txt s, .int .i64 a, .bool false] E.wire_reader) (hs : s.length ≤ 1000000000) :
    Sp Try.prog F.wire_reader_number #[.pointer (some ⟨b, 0, none⟩)] w fun v w' =>
      ((∃ A n : Nat, a = (A : Int) ∧ RdAt s A n ∧ v = .int .i64 (n : Int) ∧ Bk w' b [txt s, .int .i64 ((A + (numB n).length : Nat) : Int), .bool false] E.wire_reader) ∨
      ((∀ A n : Nat, a = (A : Int) → ¬ RdAt s A n) ∧ ∃ x a' : Int, v = .int .i64 x ∧ Bk w' b [txt s, .int .i64 a', .bool true] E.wire_reader)) ∧ Fr (fun i => i = b) w w' := by
  have hsz : (⟨s.toArray⟩ : ByteArray).size = s.length := rfl
  refine en TBok rfl ?_
  refine drawR TBok mixed (fun _ => False) (upF 23 0) (by kernel_rfl) fun u1 e1 _ => ?_
  refine tld (B := B) rfl not_false ?_
  refine tld (B := B) rfl not_false ?_
  refine ite (fun h0 => ?_) (fun h0 => ?_)
  · have B1 := B.mv (w := u1)
    refine rsto (B := B1) (vs := [.bool true]) rfl rfl rfl (bool_one _) fun u2 B2 f2 _ => ?_
    exact ⟨.inr ⟨fun A n e => by omega, 0, a, rfl, B2⟩, (Fr.fr (Le.e (a := w) (b := u1))).trans f2⟩
  refine tld (B := B) rfl not_false ?_
  refine tld (B := B) rfl not_false ?_
  refine ite (fun h1 => ?_) (fun h1 => ?_)
  · have B1 := B.mv (w := u1)
    refine rsto (B := B1) (vs := [.bool true]) rfl rfl rfl (bool_one _) fun u2 B2 f2 _ => ?_
    refine ⟨.inr ⟨fun A n e hr => ?_, 0, a, rfl, B2⟩, (Fr.fr (Le.e (a := w) (b := u1))).trans f2⟩
    have := rdAt_le hr
    rw [hsz] at h1
    omega
  rw [hsz] at h1
  have q_ : ∃ A : Nat, a = (A : Int) := ⟨a.toNat, by omega⟩
  obtain ⟨A, rfl⟩ := q_
  refine drawR TBok mixed (fun _ => False) (upF 12 0) (by kernel_rfl) fun u2 e2 _ => ?_
  refine tld (B := B) rfl not_false ?_
  refine tld (B := B) rfl not_false ?_
  refine rar (by rw [hsz]; omega) ?_
  refine tmin ?_
  refine cnt1 TBok 44 [2, 4, 5] 3 43 5 (fun k v u => ∃ l t : List UInt8, v = .int .i64 (valB l : Nat) ∧ s.drop A = l ++ t ∧ l.length = k ∧ (∀ x ∈ l, 128 ≤ x.toNat) ∧ Stp w u) rfl rfl ⟨[], s.drop A, rfl, rfl, rfl, by simp, stp⟩ ?_
  rintro k _ g u hk ⟨l, t, rfl, hd, hl, htop, e⟩
  have hlen : s.length - A = l.length + t.length := by have := congrArg List.length hd; simpa using this
  have hvb : valB l < 128 ^ k := by rw [← hl]; exact valB_lt l
  have hW : 128 ^ k ≤ 34359738368 := Nat.pow_le_pow_right (by decide) hk
  refine ite (fun hlt => ?_) (fun hge => ?_)
  · rw [hsz] at hlt
    obtain ⟨c, t', rfl⟩ : ∃ c t', t = c :: t' := by
      cases t with
      | nil => simp at hlen; omega
      | cons c t' => exact ⟨c, t', rfl⟩
    have hget : s[A + k]? = some c := by
      rw [← List.getElem?_drop, hd, ← hl]; simp
    have hk4 : k ≤ 4 := by omega
    have hW4 : 128 ^ k ≤ 268435456 := Nat.pow_le_pow_right (by decide) hk4
    have hc256 := c.toNat_lt
    have hcm : c.toNat % 128 ≤ 127 := by omega
    have hprod : c.toNat % 128 * 128 ^ k ≤ 127 * 128 ^ k := Nat.mul_le_mul_right _ hcm
    have hvs : valB (l ++ [c]) = valB l + c.toNat % 128 * 2 ^ (7 * k) := by rw [valB_snoc, hl, pow7, Nat.mul_comm]
    refine drawR TBok mixed (fun _ => False) (upF 13 0) (by kernel_rfl) fun u3 e3 _ => ?_
    refine tld (B := B) rfl not_false ?_
    refine tld (B := B) rfl not_false ?_
    refine rarE (y := ((A + k : Nat) : Int)) (by omega) (by omega) ?_
    refine tsidx hget ?_
    refine tconvE (z := (c.toNat : Int)) (wrap_id (by omega) (by omega)) ?_
    refine rrem (by omega) (by omega) ?_
    refine rarE (y := ((7 * k : Nat) : Int)) (by omega) (by omega) ?_
    refine rshl (z := ((c.toNat % 128 * 2 ^ (7 * k) : Nat) : Int)) (by omega) (by rw [Int.toNat_natCast]; push_cast; rfl) (by rw [pow7]; omega) ?_
    refine SemV.of (v := .int .i64 ((valB (l ++ [c]) : Nat) : Int)) (by rw [hvs]; exact run_or (by rw [pow7]; exact hvb) (by rw [pow7]; omega) _) ?_
    clear hvs
    refine ite (fun hc => ?_) (fun hc => ?_)
    · have hiff := rdAt_snoc hd htop (by omega : c.toNat < 128)
      have B3 := B.mv (w := u3)
      have F3 : Fr (fun i => i = b) w u3 := Fr.fr (Le.e (a := w) (b := u3))
      refine ite (fun hbig => ?pp) (fun hbig => ?tt)
      case' pp =>
        have hno : ∀ n : Nat, ¬ RdAt s A n := fun n hr => by have := (hiff n).1 hr; omega
      case' tt => refine ite (fun hz => ?uu) (fun hz => ?rr)
      case' uu => refine ite (fun hi => ?qq) (fun hi => ?ss)
      case' qq =>
        have hno : ∀ n : Nat, ¬ RdAt s A n := fun n hr => by
          have h3 := (hiff n).1 hr
          have q_ := h3.2.2
          rcases q_ with h | h
          · subst h; simp at hl; omega
          · omega
      case' rr =>
        have hyes : RdAt s A (valB (l ++ [c])) := (hiff _).2 ⟨rfl, by omega, .inr (by omega)⟩
      case' ss =>
        have hyes : RdAt s A (valB (l ++ [c])) := (hiff _).2 ⟨rfl, by omega, .inl (List.eq_nil_of_length_eq_zero (by omega))⟩
      case' pp | qq =>
        refine rsto (B := B3) (vs := [.bool true]) rfl rfl rfl (bool_one _) fun u4 B4 f4 _ => ?_
        refine rld (B := B4) rfl ?_
        refine rar (by omega) ?_
        refine rar (by omega) ?_
        refine rsto (B := B4) (vs := [.int .i64 _]) rfl rfl rfl (int_one _) fun u5 B5 f5 _ => ?_
        exact ⟨.inr ⟨fun A' n e hr => hno n (Int.ofNat_inj.1 e ▸ hr), _, _, rfl, B5⟩, (F3.trans f4).trans f5⟩
      case' rr | ss =>
        refine rsto (B := B3) (vs := [.bool false]) rfl rfl rfl (bool_one _) fun u4 B4 f4 _ => ?_
        refine rld (B := B4) rfl ?_
        refine rar (by omega) ?_
        refine rarE (y := ((A + (numB (valB (l ++ [c]))).length : Nat) : Int)) (by
          have h5 : numB (valB (l ++ [c])) = l ++ [c] := ((rdAt_end (by rw [hd]; simp : s.drop A = (l ++ [c]) ++ t') (EndB.snoc htop (by omega)) _).1 hyes).2.2
          rw [h5]; simp; omega) (by
          have := numB_len (n := valB (l ++ [c])) hyes.1
          omega) ?_
        refine rsto (B := B4) (vs := [.int .i64 _]) rfl rfl rfl (int_one _) fun u5 B5 f5 _ => ?_
        exact ⟨.inl ⟨A, _, rfl, hyes, rfl, B5⟩, (F3.trans f4).trans f5⟩
    · refine rar (by omega) ⟨rfl, by omega, l ++ [c], t', rfl, by rw [hd]; simp, by simp [hl], fun x hx => ?_, stp⟩
      have q_ := List.mem_append.1 hx
      rcases q_ with hx | hx
      · exact htop x hx
      · rw [List.mem_singleton.1 hx]; omega
  · rw [hsz] at hge
    have B3 := B.mv (w := u)
    refine rsto (B := B3) (vs := [.bool true]) rfl rfl rfl (bool_one _) fun u4 B4 f4 _ => ?_
    refine ⟨.inr ⟨fun A' n e hr => ?_, 0, _, rfl, B4⟩, (Fr.fr (Le.e (a := w) (b := u))).trans f4⟩
    have hA : A' = A := by omega
    subst hA
    refine rdAt_none hd htop ?_ n hr
    by_cases h5 : l.length = 5
    · exact .inl h5
    · right; exact List.eq_nil_of_length_eq_zero (by omega)
theorem wire_ReadNumber_1_sp {v : Value} {w : World} : Sp Try.prog F.wire_ReadNumber_1 #[v] w fun r w' => r = .func (.func F.wire_reader_number) #[v] #[] ∧ w' = w := by
  refine en TBok rfl ?_
  exact ⟨rfl, rfl⟩
theorem wire_read_int_sp {s : List UInt8} {a : Int} {w : World} (hs : s.length ≤ 1000000000) : Sp Try.prog F.wire_read_int #[txt s, .int .i64 a, .func (.func F.wire_ReadNumber_1) #[] #[]] w fun v w' => RdV s a v ∧ Stp w w' := by
  refine en TBok rfl ?_
  refine rbuild (cs := [txt s, .int .i64 a, .bool false]) rfl ?_
  refine rbx fun b w1 n1 B1 => ?_
  refine rcall (wire_ReadNumber_1_sp) ?_
  rintro _ _ ⟨rfl, rfl⟩
  refine rcall (wire_reader_number_sp B1 hs) ?_
  rintro v w2 ⟨⟨A, n, rfl, hr, rfl, B2⟩ | ⟨hno, x, a', rfl, B2⟩, f2⟩
  · have s2 : Stp w w2 := ⟨Fr.st Le.e f2 fun i hi => by subst hi; exact n1.lo⟩
    refine rld (B := B2) rfl ?_
    refine drawR TBok mixed (fun _ => False) (upF 8 0) (by kernel_rfl) fun u3 e3 _ => ?_
    refine tld (B := B2) rfl not_false ?_
    exact ⟨.inl ⟨A, n, rfl, hr, rfl⟩, stp⟩
  · have s2 : Stp w w2 := ⟨Fr.st Le.e f2 fun i hi => by subst hi; exact n1.lo⟩
    refine rld (B := B2) rfl ?_
    exact ⟨.inr ⟨hno, rfl⟩, stp⟩
theorem wire_ReadNumber_sp {s : List UInt8} {a : Int} {w : World} (hs : s.length ≤ 1000000000) : Sp Try.prog F.wire_ReadNumber #[txt s, .int .i64 a] w fun v w' => RdV s a v ∧ Stp w w' := by
  refine en TBok rfl ?_
  refine rcall (wire_read_int_sp hs) ?_
  rintro v w2 ⟨⟨A, n, rfl, hr, rfl⟩ | ⟨hno, rfl⟩, e2⟩
  · exact ⟨.inl ⟨A, n, rfl, hr, rfl⟩, stp⟩
  · exact ⟨.inr ⟨hno, rfl⟩, stp⟩
end Go.W
namespace Go.W
open Go Go.Proofs
open Enc (enc)
set_option maxRecDepth 10000

abbrev PanF : List PanicEntry := [{ v := .iface E.api_Errno (.int .i64 220), recovered := false }]
theorem frame_must_sp {b : Bool} {w : World} : SpP Try.prog F.frame_must #[.bool b] w (fun v w' => b = true ∧ v = .tuple #[] ∧ w' = w) (fun c w' => b = false ∧ c = PanF ∧ w' = w) := by
  refine enP TBok rfl ?_
  cases b
  · refine rmki ?_
    exact rpanic ⟨rfl, rfl, rfl⟩
  · exact ⟨rfl, rfl, rfl⟩
theorem frame_reader_number_sp {s : List UInt8} {A b : Nat} {w : World} (B : Bk w b [txt s, .int .i64 (A : Int)] E.frame_reader) (hs : s.length ≤ 1000000000) :
    SpP Try.prog F.frame_reader_number #[.pointer (some ⟨b, 0, none⟩)] w (fun v w' => ∃ n : Nat, RdAt s A n ∧ v = .int .i64 (n : Int) ∧ Bk w' b [txt s, .int .i64 ((A + (numB n).length : Nat) : Int)] E.frame_reader ∧ Fr (fun i => i = b) w w')
      (fun c w' => c = PanF ∧ (∀ n : Nat, ¬ RdAt s A n) ∧ Fr (fun i => i = b) w w') := by
  refine enP TBok rfl ?_
  refine drawR TBok mixed (fun _ => False) (upF 16 0) (by kernel_rfl) fun u1 e1 _ => ?_
  refine tld (B := B) rfl not_false ?_
  refine tld (B := B) rfl not_false ?_
  refine rcall (wire_ReadNumber_sp (a := (A : Int)) hs) ?_
  rintro v u2 ⟨⟨A', n, e, hr, rfl⟩ | ⟨hno, rfl⟩, e2⟩
  · have q_ : A = A' := Int.ofNat_inj.1 e
    obtain rfl := q_
    refine ⟨e2.e, ?_⟩
    refine rcallP frame_must_sp ?_ ?_
    · rintro _ u3 ⟨_, rfl, rfl⟩
      have B2 := B.mv (w := u3)
      refine rsto (B := B2) (vs := [.int .i64 _]) rfl rfl rfl (int_one _) fun u4 B4 f4 _ => ?_
      exact ⟨n, hr, rfl, B4, (Fr.fr (Le.e (a := w) (b := u3))).trans f4⟩
    · rintro _ u3 ⟨h, _⟩; cases h
  · refine ⟨e2.e, ?_⟩
    refine rcallP frame_must_sp ?_ ?_
    · rintro _ u3 ⟨h, _⟩; cases h
    · rintro _ u3 ⟨_, rfl, rfl⟩
      exact ⟨rfl, fun n => hno A n rfl, Fr.fr (Le.e (a := w) (b := u3))⟩
theorem frame_reader_most_sp {s : List UInt8} {A b m : Nat} {w : World} (B : Bk w b [txt s, .int .i64 (A : Int)] E.frame_reader) (hs : s.length ≤ 1000000000) :
    SpP Try.prog F.frame_reader_most #[.pointer (some ⟨b, 0, none⟩), .int .i64 (m : Int)] w (fun v w' => ∃ n : Nat, RdAt s A n ∧ n ≤ m ∧ v = .int .i64 (n : Int) ∧ Bk w' b [txt s, .int .i64 ((A + (numB n).length : Nat) : Int)] E.frame_reader ∧ Fr (fun i => i = b) w w')
      (fun c w' => c = PanF ∧ (∀ n : Nat, RdAt s A n → ¬ n ≤ m) ∧ Fr (fun i => i = b) w w') := by
  refine enP TBok rfl ?_
  refine rcallP (frame_reader_number_sp B hs) ?_ ?_
  · rintro _ u1 ⟨n, hr, rfl, B1, f1⟩
    refine ite (fun h => ?_) (fun h => ?_)
    · refine rcallP frame_must_sp ?_ ?_
      · rintro _ u2 ⟨_, rfl, rfl⟩
        exact ⟨n, hr, by omega, rfl, B1, f1⟩
      · rintro _ u3 ⟨h, _⟩; cases h
    · refine rcallP frame_must_sp ?_ ?_
      · rintro _ u3 ⟨h, _⟩; cases h
      · rintro _ u2 ⟨_, rfl, rfl⟩
        refine ⟨rfl, fun k hk => ?_, f1⟩
        obtain ⟨_, t, ht⟩ := hr
        obtain ⟨_, t', ht'⟩ := hk
        have := (numB_pre (ht.symm.trans ht')).1
        omega
  · rintro _ u1 ⟨rfl, hno, f1⟩
    exact ⟨rfl, fun n hr => (hno n hr).elim, f1⟩
theorem frame_reader_end_sp {s : List UInt8} {A b : Nat} {w : World} (B : Bk w b [txt s, .int .i64 (A : Int)] E.frame_reader) :
    SpP Try.prog F.frame_reader_end #[.pointer (some ⟨b, 0, none⟩)] w (fun v w' => v = .tuple #[] ∧ A = s.length ∧ Stp w w') (fun c w' => c = PanF ∧ A ≠ s.length ∧ Stp w w') := by
  have hsz : (⟨s.toArray⟩ : ByteArray).size = s.length := rfl
  refine enP TBok rfl ?_
  refine drawR TBok mixed (fun _ => False) (upF 11 0) (by kernel_rfl) fun u1 e1 _ => ?_
  refine tld (B := B) rfl not_false ?_
  refine tld (B := B) rfl not_false ?_
  refine ite (fun h => ?_) (fun h => ?_)
  · refine rcallP frame_must_sp ?_ ?_
    · rintro _ u2 ⟨_, rfl, rfl⟩
      exact ⟨Fr.refl _ _, rfl, by rw [hsz] at h; omega, stp⟩
    · rintro _ u3 ⟨h, _⟩; cases h
  · refine rcallP frame_must_sp ?_ ?_
    · rintro _ u3 ⟨h, _⟩; cases h
    · rintro _ u2 ⟨_, rfl, rfl⟩
      exact panR rfl rfl ⟨rfl, by rw [hsz] at h; omega, stp⟩
end Go.W
namespace Go.W
open Go Go.Proofs
open Enc (enc)
set_option maxRecDepth 10000

theorem frame_right_1_sp {h : HitD} {w : World} : Sp Try.prog F.frame_right_1 #[agg h] w fun v w' => Tells (¬ HitOk h) v ∧ Stp w w' := by
  refine en TBok rfl ?_
  refine rbx fun b1 w1 n1 B1 => ?_
  refine rld (B := B1) rfl ?_
  refine ite (fun h1 => ⟨.t (fun e => by have := e.1; omega), stp⟩) (fun h1 => ?_)
  refine rld (B := B1) rfl ?_
  refine ite (fun h2 => ⟨.t (fun e => by have := e.2.1; omega), stp⟩) (fun h2 => ?_)
  refine rld (B := B1) rfl ?_
  refine ite (fun h3 => ⟨.t (fun e => by have := e.2.2.1; omega), stp⟩) (fun h3 => ?_)
  refine rld (B := B1) rfl ?_
  refine ite (fun h4 => ⟨.t (fun e => by have := e.2.2.2; omega), stp⟩) (fun h4 => ⟨.f (fun e => e ⟨by omega, by omega, by omega, by omega⟩), stp⟩)
theorem slices_IndexFunc_Hit_sp {a : Option Addr} {n c : Nat} {l : List HitD} {w : World} (h : SlF w (.slice a n c) l) (hn : l.length ≤ 1000000) :
    Sp Try.prog F.slices_IndexFunc_Hit #[.slice a n c, .func (.func F.frame_right_1) #[] #[]] w fun v w' => ((∃ k : Nat, v = .int .i64 (k : Int) ∧ ∃ y ∈ l, ¬ HitOk y) ∨ (v = .int .i64 (-1) ∧ ∀ y ∈ l, HitOk y)) ∧ Stp w w' := by
  have q_ := h.len
  obtain rfl := q_
  refine en TBok rfl ?_
  refine cnt TBok 9 [4, 5] 8 l.length (fun k u => (∀ y ∈ l.take k, HitOk y) ∧ Stp w u) rfl rfl ⟨by simp, stp⟩ ?_
  rintro k g u hk ⟨hall, e⟩
  refine ite (fun hlt => ?_) (fun hge => ?_)
  · have hka : k < l.length := by omega
    refine rix (h.up (w' := u)) (x := l[k]) (by simp) fun b1 o1 A1 => rloadA A1 rfl ?_
    refine rcall (frame_right_1_sp (h := l[k])) ?_
    rintro _ u1 ⟨⟨rfl, hy⟩ | ⟨rfl, hy⟩, e1⟩
    · exact ⟨.inl ⟨k, rfl, l[k], List.getElem_mem _, hy⟩, stp⟩
    · refine rar (by omega) ⟨rfl, hka, fun t ht => ?_, stp⟩
      rw [take_add hka] at ht
      have q_ := List.mem_append.1 ht
      rcases q_ with ht | ht
      · exact hall t ht
      · rw [List.mem_singleton.1 ht]; exact Classical.not_not.1 hy
  · have q_ : k = l.length := by omega
    obtain rfl := q_
    rw [List.take_of_length_le (Nat.le_refl _)] at hall
    exact ⟨.inr ⟨rfl, hall⟩, stp⟩
theorem slices_ContainsFunc_Hit_sp {a : Option Addr} {n c : Nat} {l : List HitD} {w : World} (h : SlF w (.slice a n c) l) (hn : l.length ≤ 1000000) :
    Sp Try.prog F.slices_ContainsFunc_Hit #[.slice a n c, .func (.func F.frame_right_1) #[] #[]] w fun v w' => Tells (∃ y ∈ l, ¬ HitOk y) v ∧ Stp w w' := by
  refine en TBok rfl ?_
  refine rcall (slices_IndexFunc_Hit_sp h hn) ?_
  rintro _ u1 ⟨⟨k, rfl, hy⟩ | ⟨rfl, hy⟩, e1⟩
  · refine ite (fun h1 => ⟨.t hy, stp⟩) (fun h1 => absurd h1 (by omega))
  · refine ite (fun h1 => absurd h1 (by omega)) (fun h1 => ⟨.f (fun ⟨y, h2, h3⟩ => h3 (hy y h2)), stp⟩)
set_option maxHeartbeats 2000000 in
theorem frame_right_sp {x : RepD} {l : List HitD} {w : World} (h : SlF w (.slice x.a.s.a x.a.s.n x.a.s.c) l) (hn : l.length ≤ 1000000) :
    Sp Try.prog F.frame_right #[agg x] w fun v w' => Tells (RepOk x l) v ∧ Stp w w' := by
  obtain ⟨id, code, fd, num, sa, sn, sc⟩ := x
  have hlen : sn = l.length := h.len
  have no : ∀ u : World, Stp w u → ¬ RepOk ⟨id, code, fd, num, sa, sn, sc⟩ l → Tells (RepOk ⟨id, code, fd, num, sa, sn, sc⟩ l) (.bool false) ∧ Stp w u := fun u s hf => ⟨.f hf, s⟩
  have l0 : l.length = 0 → l = [] := List.eq_nil_of_length_eq_zero
  refine en TBok rfl ?_
  refine rbx fun b1 w1 n1 B1 => ?_
  refine rldG (ds := enc (⟨fd, num, sa, sn, sc⟩ : AnsD)) (B := B1) rfl rfl ?_
  refine ral fun b2 w2 n2 z2 => ?_
  refine rsto (B := z2) (vs := enc (⟨fd, num, sa, sn, sc⟩ : AnsD)) rfl rfl rfl (Enc.one _) fun w3 B3 f3 _ => ?_
  have s3 : Stp w1 w3 := ⟨Fr.st Le.e f3 fun i hi => by subst hi; exact n2.lo⟩
  have B2 : Bk w3 b2 [.bool fd, .int .i64 num, .slice sa sn sc] E.api_Answer := B3
  have B1 := B1.mv (w := w3)
  clear B3 z2 f3
  refine rld (B := B2) rfl ?_
  refine ite (fun (z1 : num = 0) => ?pp) (fun (z1 : ¬ num = 0) => ?n1)
  case' pp =>
    refine rld (B := B2) rfl ?_
    refine ite (fun (z2 : (sn : Int) = 0) => ?yy) (fun (z2 : ¬ (sn : Int) = 0) => ?n2)
  case' n1 => have hz : ¬ (num = 0 ∧ l = []) := fun e => z1 e.1
  case' n2 => have hz : ¬ (num = 0 ∧ l = []) := fun e => by rw [e.2] at hlen; simp at hlen; omega
  case' yy => have hz : num = 0 ∧ l = [] := ⟨z1, l0 (by omega)⟩
  all_goals
    refine rld (B := B1) rfl ?_
    refine ite (fun (h : id < 0) => no _ stp fun e => by have := e.1.1; dsimp only at this; omega) (fun (h1 : ¬ id < 0) => ?_)
    refine rld (B := B1) rfl ?_
    refine ite (fun (h : 2147483647 < id) => no _ stp fun e => by have := e.1.2; dsimp only at this; omega) (fun (h2 : ¬ 2147483647 < id) => ?_)
    refine rld (B := B1) rfl ?_
    refine ite (fun (h : code < 0) => no _ stp fun e => by have := e.2.1.1; dsimp only at this; omega) (fun (h3 : ¬ code < 0) => ?_)
    refine rld (B := B1) rfl ?_
    refine ite (fun (h : 1000 < code) => no _ stp fun e => by have := e.2.1.2; dsimp only at this; omega) (fun (h4 : ¬ 1000 < code) => ?_)
    have base : (0 ≤ id ∧ id ≤ 2147483647) ∧ (0 ≤ code ∧ code ≤ 1000) := ⟨⟨by omega, by omega⟩, by omega, by omega⟩
    refine rld (B := B1) rfl ?_
    refine ite (fun (hc : code ≠ 0) => ?_) (fun (hc : ¬ code ≠ 0) => ?_)
    · cases fd
      · first
        | exact no _ stp fun e => hz (e.2.2.2.2.1 hc).2
        | (refine rld (B := B2) rfl ?_
           exact ⟨.t ⟨base.1, base.2, ⟨by show 0 ≤ num; omega, by show num ≤ 400; omega⟩, by rw [hz.2]; simp, fun _ => ⟨rfl, hz⟩, fun _ => hz, .inl hz.2, by rw [hz.2]; simp⟩, stp⟩)
      · first
        | exact no _ stp fun e => (by cases (e.2.2.2.2.1 hc).1)
        | (refine rld (B := B2) rfl ?_
           exact no _ stp fun e => (by cases (e.2.2.2.2.1 hc).1))
    · have hc0 : code = 0 := Classical.not_not.1 hc
      refine rld (B := B2) rfl ?_
      cases fd
      · first
        | exact no _ stp fun e => hz (e.2.2.2.2.2.1 rfl)
        | (refine rld (B := B2) rfl ?_
           exact ⟨.t ⟨base.1, base.2, ⟨by show 0 ≤ num; omega, by show num ≤ 400; omega⟩, by rw [hz.2]; simp, fun h => absurd hc0 h, fun _ => hz, .inl hz.2, by rw [hz.2]; simp⟩, stp⟩)
      · refine rld (B := B2) rfl ?_
        refine ite (fun (h5 : 0 ≤ num) => ?_) (fun (h5 : ¬ 0 ≤ num) => no _ stp fun e => by have := e.2.2.1.1; dsimp only at this; omega)
        refine rld (B := B2) rfl ?_
        refine ite (fun (h6 : num ≤ 400) => ?_) (fun (h6 : ¬ num ≤ 400) => no _ stp fun e => by have := e.2.2.1.2; dsimp only at this; omega)
        refine rld (B := B2) rfl ?_
        refine ite (fun (h7 : (sn : Int) ≤ 100) => ?_) (fun (h7 : ¬ (sn : Int) ≤ 100) => no _ stp fun e => by have := e.2.2.2.1; omega)
        have go : (l = [] ∨ num = 0) → ∀ {u : World} {v : Value}, Tells (∃ y ∈ l, ¬ HitOk y) v → ∃ b : Bool, v = .bool b ∧ Tells (RepOk ⟨id, code, true, num, sa, sn, sc⟩ l) (.bool (!b)) := by
          rintro ho u v (⟨rfl, y, hy1, hy2⟩ | ⟨rfl, hy⟩)
          · exact ⟨true, rfl, .f fun e => hy2 (e.2.2.2.2.2.2.2 y hy1)⟩
          · exact ⟨false, rfl, .t ⟨base.1, base.2, ⟨h5, h6⟩, by omega, fun h => absurd hc0 h, (fun h => (by cases h)), ho, fun y hy' => Classical.not_not.1 fun h => hy ⟨y, hy', h⟩⟩⟩
        refine rld (B := B2) rfl ?_
        refine ite (fun (h8 : num = 0) => ?_) (fun (h8 : ¬ num = 0) => ?_)
        · refine rld (B := B2) rfl ?_
          refine rcall (slices_ContainsFunc_Hit_sp (h.up (w' := w3)) hn) ?_
          rintro v u4 ⟨hv, e4⟩
          have q_ := go (.inr h8) (u := u4) hv
          obtain ⟨b, rfl, hT⟩ := q_
          exact ⟨hT, stp⟩
        · refine rld (B := B2) rfl ?_
          refine ite (fun (h9 : (sn : Int) = 0) => ?_) (fun (h9 : ¬ (sn : Int) = 0) => no _ stp fun e => by
            have q_ := e.2.2.2.2.2.2.1
            rcases q_ with h' | h'
            · rw [h'] at hlen; simp at hlen; omega
            · exact h8 h')
          refine rld (B := B2) rfl ?_
          refine rcall (slices_ContainsFunc_Hit_sp (h.up (w' := w3)) hn) ?_
          rintro v u4 ⟨hv, e4⟩
          have q_ := go (.inl (l0 (by omega))) (u := u4) hv
          obtain ⟨b, rfl, hT⟩ := q_
          exact ⟨hT, stp⟩
end Go.W
namespace Go.W
open Go Go.Proofs
open Enc (enc)
set_option maxRecDepth 10000

/-- a number's digits, the lowest first; do more follow? -/
def digs (n : Nat) : List (Nat × Bool) := if h : n < 128 then [(n, false)] else (n % 128, true) :: digs (n / 128)
termination_by n
decreasing_by omega
theorem digs_lt {n : Nat} (h : n < 128) : digs n = [(n, false)] := by rw [digs, dif_pos h]
theorem digs_ge {n : Nat} (h : ¬ n < 128) : digs n = (n % 128, true) :: digs (n / 128) := by rw [digs, dif_neg h]
def dgV (p : Nat × Bool) : List Value := [.int .i64 (p.1 : Int), .bool p.2]
def dgB (p : Nat × Bool) : UInt8 := UInt8.ofNat (if p.2 then p.1 + 128 else p.1)
theorem digs_numB (n : Nat) : (digs n).map dgB = numB n := by
  induction n using Nat.strongRecOn with
  | ind n ih =>
    by_cases h : n < 128
    · rw [digs_lt h, numB_lt h]; rfl
    · rw [digs_ge h, numB_ge h, List.map_cons, ih (n / 128) (by omega)]
      congr 1
      show UInt8.ofNat (n % 128 + 128) = _
      rw [Nat.add_comm]
theorem digs_small (n : Nat) : ∀ p ∈ digs n, p.1 < 128 := by
  induction n using Nat.strongRecOn with
  | ind n ih =>
    by_cases h : n < 128
    · rw [digs_lt h]; intro p hp; simp at hp; subst hp; exact h
    · rw [digs_ge h]; intro p hp
      have q_ := List.mem_cons.1 hp
      rcases q_ with rfl | hp
      · show n % 128 < 128; omega
      · exact ih (n / 128) (by omega) p hp
theorem digs_len {n : Nat} (h : n ≤ 2147483647) : (digs n).length ≤ 5 := by
  have := numB_len h
  rw [← digs_numB, List.length_map] at this
  exact this
abbrev DgQ (b : Nat) (u u' : World) : Prop := Fr (fun i => i = b) u u' ∧ ∃ x, Bk u b [.int .i64 x] E.int
abbrev DgR (b : Nat) (u u' : World) : Prop := ∀ x, Bk u b [.int .i64 x] E.int → Bk u' b [.int .i64 x] E.int
theorem digits_seq {b n : Nat} (hn : n ≤ 2147483647) : SeqG Try.prog F.wire_digits_1 [] [.pointer (some ⟨b, 0, none⟩)] (DgQ b) (DgR b) (fun u => Bk u b [.int .i64 (n : Int)] E.int)
    (fun ys x _ => ∃ rest, ys ++ x :: rest = (digs n).map dgV) (fun ys => ys = (digs n).map dgV) := by
  refine ⟨fun y J Jx w hJ hJx hY h0 B0 => ?_⟩
  refine en TBok rfl ?_
  refine loop0 TBok 4 [2, 3] (fun u => ∃ ys m : _, ys ++ (digs m).map dgV = (digs n).map dgV ∧ J ys u ∧ Bk u b [.int .i64 ((m : Nat) : Int)] E.int ∧ m ≤ 2147483647) (cellN b) rfl ⟨[], n, rfl, h0, B0, hn⟩ ?_
  rintro g u ⟨ys, m, hys, hj, B, hm⟩
  refine rld (B := B) rfl ?_
  refine rremE (z := ((m % 128 : Nat) : Int)) (by omega) (by omega) (by omega) ?_
  refine rld (B := B) rfl ?_
  refine rdivE (q := ((m / 128 : Nat) : Int)) (by omega) (by rw [Int.tdiv_eq_ediv_of_nonneg (by omega)]; omega) (by omega) ?_
  refine rsto (B := B) (vs := [.int .i64 _]) rfl rfl rfl (int_one _) fun u1 B1 f1 _ => ?_
  refine rld (B := B1) rfl ?_
  have hj1 := hJ _ _ _ hj ⟨f1, _, B⟩
  refine ite (fun hgt => ?_) (fun hle => ?_)
  · have hd := digs_ge (n := m) (by omega)
    refine ryield (vs := dgV (m % 128, true)) rfl rfl rfl rfl (hY ys u1 _ ⟨(digs (m / 128)).map dgV, by rw [← hys, hd]; rfl⟩ hj1) ?_
    rintro bb u2 ⟨⟨rfl, hj2⟩ | ⟨rfl, hx⟩, hR⟩
    · have B2 := hR _ B1
      refine rld (B := B2) rfl ?_
      refine ite (fun h => absurd h (by omega)) (fun _ => ?_)
      refine ⟨⟨ys ++ [dgV (m % 128, true)], m / 128, by rw [List.append_assoc, ← hys, hd]; rfl, hj2, B2, by omega⟩, ?_⟩
      rw [cellN_eq B2, cellN_eq B]
      omega
    · exact .inr hx
  · have hd := digs_lt (n := m) (by omega)
    have hm1 : m % 128 = m := by omega
    refine ryield (vs := dgV (m, false)) rfl rfl rfl (by rw [← hm1]; exact congrArg (fun q : Nat => [Value.int .i64 (q : Int), .bool false]) (by omega)) (hY ys u1 _ ⟨[], by rw [← hys, hd]; rfl⟩ hj1) ?_
    rintro bb u2 ⟨⟨rfl, hj2⟩ | ⟨rfl, hx⟩, hR⟩
    · have B2 := hR _ B1
      refine rld (B := B2) rfl ?_
      refine ite (fun _ => ?_) (fun h => absurd (by omega) h)
      refine .inl ⟨_, ?_, hj2⟩
      rw [← hys, hd]; rfl
    · exact .inr hx
theorem wire_digits_sp {n : Int} {w : World} : Sp Try.prog F.wire_digits #[.int .i64 n] w fun v w' => (∃ b, v = .func (.func F.wire_digits_1) #[] #[.pointer (some ⟨b, 0, none⟩)] ∧ w.heap.size ≤ b ∧ Bk w' b [.int .i64 n] E.int) ∧ Stp w w' := by
  refine en TBok rfl ?_
  refine rbx fun b1 w1 n1 B1 => ?_
  exact ⟨⟨b1, rfl, n1.lo, B1⟩, stp⟩
set_option maxHeartbeats 1000000 in
theorem wire_Number_sp {n : Int} {w : World} : Sp Try.prog F.wire_Number #[.int .i64 n] w fun v w' => v = numV n ∧ Stp w w' := by
  have no : ¬ (0 ≤ n ∧ n ≤ 2147483647) → numV n = .tuple #[txt [], .int .i64 1] := fun h => if_neg h
  refine en TBok rfl ?_
  refine ite (fun h => ⟨(no (by omega)).symm, stp⟩) (fun h1 => ?_)
  refine ite (fun h => ⟨(no (by omega)).symm, stp⟩) (fun h2 => ?_)
  have ok : numV n = .tuple #[txt (numB n.toNat), .int .i64 0] := if_pos (by omega)
  clear no
  have q_ : ∃ N : Nat, n = (N : Int) := ⟨n.toNat, by omega⟩
  obtain ⟨N, rfl⟩ := q_
  rw [Int.toNat_natCast] at ok
  have hN : N ≤ 2147483647 := by omega
  have hl5 := digs_len hN
  refine ral fun b4 w1 n1 B4 => ?_
  refine rcall (wire_digits_sp (n := (N : Int))) ?_
  rintro v w2 ⟨⟨bd, rfl, hbd, Bd⟩, e2⟩
  have C4 := B4.mv (w := w2)
  have hb4 := n1.b; have hs4 := n1.s
  have z2 := Le.size (a := w) (b := w2)
  refine rrangeG TBok rfl (gf := F.wire_digits_1) (first := []) (cap := [.pointer (some ⟨bd, 0, none⟩)]) (Rc := fun c u => (∃ D, Fr D c u) ∧ DgR bd c u) rfl rfl (digits_seq (b := bd) hN)
    (by rintro ys x _ ⟨rest, h⟩
        have : x ∈ (digs N).map dgV := by rw [← h]; simp
        have q_ := List.mem_map.1 this
        obtain ⟨p, _, rfl⟩ := q_
        rfl) (fun u u' h => ⟨_, h.1⟩)
    (fun ys u => ∃ k, ys = ((digs N).take k).map dgV ∧ k ≤ (digs N).length ∧ ∃ oa on oc, Bk u b4 [.slice oa on oc] E.s_uint8 ∧ Own w.heap.size E.uint8 u (.slice oa on oc) (((digs N).take k).map dgB) ∧ Stp w u) (fun _ _ => False)
    ?_ ?_ ?_ ?_ ?_ (fun c u h => h.1) (fun w' e => by have := Bd.fr e id; exact this) ⟨0, rfl, by omega, none, 0, 0, C4, Own.nil _ _ _, stp⟩ ?_ ?_ ?_
  · rintro ys u u' ⟨k, h1, h2, oa, on, oc, h3, h4, h5⟩ q; exact ⟨k, h1, h2, oa, on, oc, h3.qt q, h4.qt q, h5.qt (q.mono z2)⟩
  · rintro _ u u' h; exact h.elim
  · rintro ys u u' _ ⟨k, h1, h2, oa, on, oc, h3, h4, h5⟩ ⟨q, x, Bx⟩
    exact ⟨k, h1, h2, oa, on, oc, h3.fr q (by omega), h4.frc q Bx (by decide), ⟨Fr.st h5.e q fun i hi => by subst hi; exact Nat.le_trans (by omega) hbd⟩⟩
  · rintro _ u u' _ h; exact h.elim
  · rintro u c u2 u3 q1 ⟨_, r⟩ q2 x B; exact (r x (B.qt q1)).qt q2
  · rintro ys x u ⟨rest, hr⟩ _ ⟨k, h1, h2, oa, on, oc, h3, h4, h5⟩
    have hk : k < (digs N).length := by
      have q_ := Nat.lt_or_ge k (digs N).length
      rcases q_ with h | h
      · exact h
      · exfalso
        have := congrArg List.length hr
        rw [h1] at this
        simp at this; omega
    have hx : x = dgV (digs N)[k] := by
      have hyl : ys.length = k := by rw [h1, List.length_map, List.length_take]; omega
      have e1 : (((digs N).map dgV))[k]? = some x := by rw [← hr, ← hyl, List.getElem?_append_right (Nat.le_refl _)]; simp
      rw [List.getElem?_map, List.getElem?_eq_getElem hk] at e1
      exact (Option.some.inj e1).symm
    have ht := take_add hk
    have hsm := digs_small N _ (List.getElem_mem hk)
    have q_ : ∃ p, p = (digs N)[k] := ⟨_, rfl⟩
    obtain ⟨⟨d, m⟩, hdm⟩ := q_
    rw [← hdm] at hx ht hsm
    subst hx
    refine ⟨Fr.refl _ _, fun u1 q => ?_⟩
    have h3 := h3.qt q; have h4 := h4.qt q; have h5 := h5.qt (q.mono z2)
    have hlen : (((digs N).take k).map dgB).length ≤ 5 := by rw [List.length_map, List.length_take]; omega
    have hys : ys ++ [dgV (d, m)] = ((digs N).take (k + 1)).map dgV := by rw [h1, ht]; simp
    have hbs : ((digs N).take k).map dgB ++ [dgB (d, m)] = ((digs N).take (k + 1)).map dgB := by rw [ht]; simp
    cases m
    case' false =>
      refine rld (B := h3) rfl ?_
      refine rconvE (z := ((dgB (d, false)).toNat : Int)) (wrap_u8 (x := d) (by dsimp only at hsm; omega)) ?_
      refine rbs1 (dgB (d, false)) rfl rfl (by decide) fun b6 w6 e6 _ S6 => ?_
    case' true =>
      refine rarE (y := ((d + 128 : Nat) : Int)) (by omega) (by dsimp only at hsm; omega) ?_
      refine rld (B := h3) rfl ?_
      refine rconvE (z := ((dgB (d, true)).toNat : Int)) (wrap_u8 (x := d + 128) (by dsimp only at hsm; omega)) ?_
      refine rbs1 (dgB (d, true)) rfl rfl (by decide) fun b6 w6 e6 _ S6 => ?_
    all_goals
      refine rapp1 (u := w) ⟨rfl, rfl⟩ (h4.up (w' := w6)) S6 (by omega) fun v7 w7 O7 f7 s7 => ?_
      have r1 := (h3.mv (w := w6)).fro (h4.up (w' := w6)) f7 (by decide)
      rw [hbs] at O7
      have q7 := O7.shape
      obtain ⟨a7, c7, rfl⟩ := q7
      refine rsto (B := r1) (vs := [.slice a7 _ c7]) rfl rfl rfl (by simp; rfl) fun w8 B8 f8 _ => ?_
      have s8 : Stp w w8 := ⟨Fr.st Le.e f8 fun i hi => by subst hi; exact n1.lo⟩
      refine ⟨⟨k + 1, hys, hk, a7, _, c7, B8, O7.frc f8 r1 (by decide), s8⟩, ⟨fun i => w.heap.size ≤ i, ((Fr.fr e6.e).trans s7.e).trans (f8.mono fun i _ hi => by subst hi; exact n1.lo)⟩, fun x Bx => ?_⟩
      have k1 := (Bx.mv (w := w6)).fro (h4.up (w' := w6)) f7 (by decide)
      exact k1.fr f8 (by omega)
  · rintro ys D u hE ⟨k, h1, h2, oa, on, oc, h3, h4, h5⟩ hD hd
    have hk : k = (digs N).length := by
      have := congrArg List.length (h1.symm.trans hE)
      simp at this; omega
    subst hk
    rw [List.take_of_length_le (Nat.le_refl _), digs_numB] at h4
    refine rld (B := h3) rfl ?_
    refine rbstr h4.sl ?_
    refine leave1 hd fun u' q => ?_
    exact ⟨ok.symm, h5.qt (q _ (by omega))⟩
  · rintro c D u h; exact h.elim
end Go.W
namespace Go.W
open Go Go.Proofs
open Enc (enc)
set_option maxRecDepth 10000

theorem SlY.frB {α : Type} [Enc α] {e T : TypeId} {b B : Nat} {es : List TypeId} {w w' : World} {v : Value} {l : List α} (h : SlY e w v l) (f : FrX (fun i => i = b) B es w w') (hb : ∃ c z, w.heap[b]? = some (.cells c T z)) (hT : T ≠ e) (he : e ∉ es) : SlY e w' v l :=
  h.fr f (by
    rintro g cs z hg hc (rfl | hD)
    · obtain ⟨c, z', h'⟩ := hb
      rw [h'] at hc; cases hc; exact hT rfl
    · exact he (hD.cells hc))
abbrev BldR (B b : Nat) (l : List UInt8) (w : World) : Prop := BldB E.strings_Builder E.uint8 B b l w
abbrev BldF (B b : Nat) (w w' : World) : Prop := FrX (fun i => i = b) B [E.uint8] w w'
theorem Builder_write_sp {B b : Nat} {l m : List UInt8} {w : World} (h : BldR B b l w) (hB : B ≤ w.heap.size) (hlen : l.length + m.length ≤ 140737488355328) :
    Sp Try.prog F.strings_Builder_WriteString #[.pointer (some ⟨b, 0, none⟩), txt m] w fun v w' => v = .tuple #[.int .i64 m.length, .nilIface] ∧ BldR B b (l ++ m) w' ∧ BldF B b w w' :=
  bld_write (f := F.strings_Builder_WriteString) Try.bldW Try.bldX rfl rfl rfl (FnAt.can (f := F.strings_Builder_WriteString) inferInstance) h hB hlen
theorem Builder_string_sp {B b : Nat} {l : List UInt8} {w : World} (h : BldR B b l w) (hB : B ≤ w.heap.size) :
    Sp Try.prog F.strings_Builder_String #[.pointer (some ⟨b, 0, none⟩)] w fun v w' => v = txt l ∧ BldR B b l w' ∧ BldF B b w w' :=
  bld_string (f := F.strings_Builder_String) Try.bldS Try.bldX rfl rfl rfl (FnAt.can (f := F.strings_Builder_String) inferInstance) h hB
theorem wire_Number_t {n : Int} {w : World} : Sp Try.prog F.wire_Number #[.int .i64 n] w fun v w' => (∃ e : Int, v = .tuple #[txt (if 0 ≤ n ∧ n ≤ 2147483647 then numB n.toNat else []), .int .i64 e]) ∧ Stp w w' :=
  wire_Number_sp.mono fun _ _ h1 => ⟨by
    rw [h1.1]; unfold numV
    split
    · exact ⟨0, rfl⟩
    · exact ⟨1, rfl⟩, h1.2⟩
theorem frame_put_sp {B b : Nat} {bs : List UInt8} {a : Option Addr} {n c : Nat} {l : List Int} {w : World} (hb : BldR B b bs w) (h : SlY E.int w (.slice a n c) l) (hB : B ≤ w.heap.size) (hn : l.length ≤ 1000000) (hl : bs.length ≤ 1000000000) :
    Sp Try.prog F.frame_put #[.pointer (some ⟨b, 0, none⟩), .slice a n c] w fun v w' => v = .tuple #[] ∧ BldR B b (bs ++ numsB l) w' ∧ BldF B b w w' := by
  have q_ := h.len
  obtain rfl := q_
  refine en TBok rfl ?_
  refine cnt TBok 11 [4, 5, 6, 7] 10 l.length (fun k u => BldR B b (bs ++ numsB (l.take k)) u ∧ BldF B b w u) rfl rfl ⟨by simpa [numsB] using hb, FrX.refl _ _ _ _⟩ ?_
  rintro k g u hk ⟨hu, fu⟩
  refine ite (fun hlt => ?_) (fun hge => ?_)
  · have hka : k < l.length := by omega
    have hs := numsB_take hka
    have h1 := numsB_len (l.take (k + 1))
    rw [List.length_take, hs, List.length_append] at h1
    have hz := h.frB fu hb.obj (by decide) (by decide)
    refine rix hz.sl (x := l[k]) (by simp) fun b4 o4 A4 => rload1 (A4.cell0 rfl) ?_
    refine rcall (wire_Number_t (n := l[k])) ?_
    rintro _ u1 ⟨⟨e9, rfl⟩, e1⟩
    refine rcall (Builder_write_sp (hu.up (w' := u1)) (Nat.le_trans hB (Nat.le_trans fu.size e1.e.size)) (by rw [List.length_append]; omega)) ?_
    rintro _ u2 ⟨rfl, h2, f2⟩
    rw [List.append_assoc, ← hs] at h2
    refine rar (by omega) ⟨rfl, hka, h2, (fu.trans (FrX.ext e1.e)).trans f2⟩
  · have q_ : k = l.length := by omega
    obtain rfl := q_
    rw [List.take_of_length_le (Nat.le_refl _)] at hu
    exact ⟨rfl, hu, fu⟩
theorem SlY.of_new {α : Type} [Enc α] {e : TypeId} {w w' : World} {b n : Nat} {cs : Array Value} {xs : List α} (h : SlF w' (.slice (some ⟨b, 0, none⟩) n n) xs) (N : New w w' b cs e) : SlY e w' (.slice (some ⟨b, 0, none⟩) n n) xs := ⟨h, .inr ⟨b, _, _, rfl, N.blk⟩⟩
set_option maxHeartbeats 2000000 in
theorem frame_PutReply_sp {x : RepD} {l : List HitD} {w : World} (h : SlF w (.slice x.a.s.a x.a.s.n x.a.s.c) l) (hn : l.length ≤ 1000000) :
    Sp Try.prog F.frame_PutReply #[agg x] w fun v w' => ((RepOk x l ∧ v = .tuple #[txt (encR x l), .int .i64 0]) ∨ (¬ RepOk x l ∧ v = .tuple #[txt [], .int .i64 1])) ∧ Stp w w' := by
  obtain ⟨id, code, fd, num, sa, sn, sc⟩ := x
  have hlen : sn = l.length := h.len
  refine en TBok rfl ?_
  refine rbx fun b1 w1 n1 B1 => ?_
  refine rldG (ds := enc (⟨id, code, fd, num, sa, sn, sc⟩ : RepD)) (B := B1) rfl rfl ?_
  refine rcall (frame_right_sp (x := ⟨id, code, fd, num, sa, sn, sc⟩) (h.up (w' := w1)) hn) ?_
  rintro v w2 ⟨⟨rfl, hok⟩ | ⟨rfl, hok⟩, e2⟩
  case' inr => exact ⟨.inr ⟨hok, rfl⟩, stp⟩
  have z2 := Le.size (a := w) (b := w2)
  refine ral fun b4 w3 n3 B3 => ?_
  have hb1 := n1.b; have hs1 := n1.s; have hb4 := n3.b; have hs4 := n3.s; have z12 := Le.size (a := w1) (b := w2)
  have hBb : w.heap.size ≤ b4 := by omega
  have L0 : BldR w.heap.size b4 [] w3 := bld_new hBb B3
  clear B3
  refine rld (B := B1) rfl ?_
  refine rld (B := B1) rfl ?_
  refine rbs (α := Int) [id, code] rfl (vs := [.int .i64 id, .int .i64 code]) rfl rfl (by decide) fun b5 w5 n5 S5 => ?_
  have s5 : Stp w3 w5 := ⟨n5.ext⟩
  have z5 := Le.size (a := w) (b := w5)
  refine rcall (frame_put_sp (L0.up (w' := w5)) (SlY.of_new S5 n5) z5 (by simp) (by simp)) ?_
  rintro _ w6 ⟨rfl, L6, f6⟩
  rw [List.nil_append] at L6
  have s6 : Stp w w6 := ⟨FrX.st Le.e f6 (Nat.le_refl _) fun i hi => by omega⟩
  have z6 := s6.e.size
  have C1 := (B1.mv (w := w5)).keptX f6 (by omega) (by decide)
  refine rld (B := C1) rfl ?_
  have q1 := numsB_len [id, code]
  simp only [List.length_cons, List.length_nil] at q1
  refine ite (fun hc => ?_) (fun hc => ?_)
  · have hv : Value.tuple #[txt (numsB [id, code]), .int .i64 0] = .tuple #[txt (encR ⟨id, code, fd, num, sa, sn, sc⟩ l), .int .i64 0] := by
      unfold encR; rw [if_pos hc, List.append_nil]
    refine rcall (Builder_string_sp L6 z6) ?_
    rintro _ w7 ⟨rfl, L7, f7⟩
    exact ⟨.inl ⟨hok, hv⟩, ⟨FrX.st s6.e f7 (Nat.le_refl _) fun i hi => by omega⟩⟩
  refine rld (B := C1) rfl ?_
  cases fd
  case' false =>
    refine rld (B := C1) rfl ?_
    refine rld (B := C1) rfl ?_
    refine rbs (α := Int) [0, num, (sn : Int)] rfl (vs := [.int .i64 0, .int .i64 num, .int .i64 (sn : Int)]) rfl rfl (by decide) fun b8 w8 n8 S8 => ?_
    have q2 := numsB_len [0, num, (sn : Int)]
    have hfin : numsB [id, code] ++ numsB [0, num, (sn : Int)] ++ hitsB l = encR ⟨id, code, false, num, sa, sn, sc⟩ l := by
      unfold encR
      rw [if_neg hc, hlen, List.append_assoc]; rfl
  case' true =>
    refine rld (B := C1) rfl ?_
    refine rld (B := C1) rfl ?_
    refine rbs (α := Int) [1, num, (sn : Int)] rfl (vs := [.int .i64 1, .int .i64 num, .int .i64 (sn : Int)]) rfl rfl (by decide) fun b8 w8 n8 S8 => ?_
    have q2 := numsB_len [1, num, (sn : Int)]
    have hfin : numsB [id, code] ++ numsB [1, num, (sn : Int)] ++ hitsB l = encR ⟨id, code, true, num, sa, sn, sc⟩ l := by
      unfold encR
      rw [if_neg hc, hlen, List.append_assoc]; rfl
  all_goals
    have s8 : Stp w6 w8 := ⟨n8.ext⟩
    have z8 := Le.size (a := w) (b := w8)
    simp only [List.length_cons, List.length_nil] at q2
    refine rcall (frame_put_sp (L6.up (w' := w8)) (SlY.of_new S8 n8) z8 (by simp) (by omega)) ?_
    rintro _ w9 ⟨rfl, L9, f9⟩
    have s9 : Stp w w9 := ⟨FrX.st Le.e f9 (Nat.le_refl _) fun i hi => by omega⟩
    have z9 := s9.e.size
    have C9 := (C1.mv (w := w8)).keptX f9 (by omega) (by decide)
    refine rld (B := C9) rfl ?_
    refine cnt TBok 39 [7] 38 l.length (fun k u => BldR w.heap.size b4 (numsB [id, code] ++ numsB _ ++ hitsB (l.take k)) u ∧ Stp w u) rfl rfl ⟨by simpa [hitsB] using L9, s9⟩ ?_
    rintro k g u hk ⟨hu, eu⟩
    refine ite (fun hlt => ?_) (fun hge => ?_)
    · have hka : k < l.length := by have hlt' : (k : Int) < (sn : Int) := hlt; omega
      have q_ : ∃ y, l[k]? = some y := ⟨_, List.getElem?_eq_getElem hka⟩
      obtain ⟨y, hy⟩ := q_
      refine rix (h.up (w' := u)) (x := y) hy fun b7 o7 A7 => rloadA A7 rfl ?_
      refine ral fun b10 w10 n10 z10 => ?_
      refine rsto (B := z10) (vs := enc y) rfl rfl rfl (Enc.one _) fun w11 B11 f11 _ => ?_
      have s11 : Stp u w11 := ⟨Fr.st Le.e f11 fun i hi => by subst hi; exact n10.lo⟩
      have BH : Bk w11 b10 [.int .i64 y.v, .int .i64 y.d] E.api_Hit := B11
      clear B11 z10 f11
      refine rld (B := BH) rfl ?_
      refine rld (B := BH) rfl ?_
      refine rbs (α := Int) [y.v, y.d] rfl (vs := [.int .i64 y.v, .int .i64 y.d]) rfl rfl (by decide) fun b12 w12 n12 S12 => ?_
      have s12 : Stp w11 w12 := ⟨n12.ext⟩
      have q3 := numsB_len [y.v, y.d]
      have q4 := hitsB_len (l.take k)
      simp only [List.length_cons, List.length_nil, List.length_take] at q3 q4
      refine rcall (frame_put_sp (hu.up (w' := w12)) (SlY.of_new S12 n12) (Le.size (a := w) (b := w12)) (by simp) (by rw [List.length_append, List.length_append]; omega)) ?_
      rintro _ w13 ⟨rfl, L13, f13⟩
      rw [List.append_assoc, ← hitsB_take hy] at L13
      refine rar (by omega) ⟨rfl, hka, L13, ⟨FrX.st Le.e f13 (Nat.le_refl _) fun i hi => by omega⟩⟩
    · have hge' : ¬ (k : Int) < (sn : Int) := hge
      have q_ : k = l.length := by omega
      obtain rfl := q_
      rw [List.take_of_length_le (Nat.le_refl _), hfin] at hu
      refine rcall (Builder_string_sp hu eu.e.size) ?_
      rintro _ w14 ⟨rfl, L14, f14⟩
      exact ⟨.inl ⟨hok, rfl⟩, ⟨FrX.st eu.e f14 (Nat.le_refl _) fun i hi => by omega⟩⟩
end Go.W
