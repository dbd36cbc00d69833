/-
  Proved here: texts and bytes: a byte of a text, a part of it, texts one behind the other; numbers turned from kind to kind.
  Conditions: those that each fact names.
-/
import Derived.Test.YtgplodgpbhddbaaW28
import Derived.Laws.BytesString
namespace Go.W
open Go
open Enc (enc)

class StrT (P : Program) (t : TypeId) : Prop where
  h : P.underlying t = some .string
class KindT (P : Program) (t : TypeId) (kd : outParam IntKind) : Prop where
  h : P.underlying t = some (.int kd)
instance : Enc UInt8 := ⟨1, fun x => [.int .u8 x.toNat], fun _ => rfl, by intro x u hu; simp at hu; subst hu; rfl, by decide⟩
section
variable {P : Program} {k : Value → World → Prop} {pn : List PanicEntry → World → Prop} {w : World}
theorem run_sidx {t : TypeId} (ht : StrT P t) {s : ByteArray} {i : Nat} {c : UInt8} (hi : s.data.toList[i]? = some c) (w : World) : (Instr.index t (.string s) (.int .i64 i)).run P w = .ok (.int .u8 c.toNat) w := by
  have hsz : i < s.size := by
    have := (List.getElem?_eq_some_iff.1 hi).1
    simpa using this
  have hc : s[i]? = some c := by
    rw [getElem?_pos s i hsz]
    have h2 := (List.getElem?_eq_some_iff.1 hi).2
    rw [← h2]; rfl
  unfold Instr.index
  simp only [asIntOf, Sem.run_bind, Sem.run_pure, Result.andThen_ok, run_under ht.h]
  have h0 : (0 : Int) ≤ (i : Int) := by omega
  rw [if_pos h0, Int.toNat_natCast, hc]
  rfl
theorem rsidx {t : TypeId} [ht : StrT P t] {s : ByteArray} {i : Nat} {c : UInt8} (hi : s.data.toList[i]? = some c) (hk : k (.int .u8 c.toNat) w) : SemV P (Instr.index t (.string s) (.int .i64 i)) k pn w := SemV.of (run_sidx ht hi w) hk
theorem tsidx {t : TypeId} [ht : StrT P t] {D : Nat → Prop} {k : Value → Prop} {s : ByteArray} {i : Nat} {c : UInt8} (hi : s.data.toList[i]? = some c) (hk : k (.int .u8 c.toNat)) : TakeS P (Instr.index t (.string s) (.int .i64 i)) D k w := by
  rw [TakeS_iff]; exact ⟨_, fun w' _ => run_sidx ht hi w', hk⟩
theorem run_conv {s d : TypeId} {kd ks kx : IntKind} (hs : KindT P s ks) (hd : KindT P d kd) (n : Int) (w : World) : (convert s d (.int kx n)).run P w = .ok (.int kd (kd.wrap n)) w := by
  unfold convert
  simp only [Sem.run_bind, run_under hs.h, run_under hd.h, Result.andThen_ok, Conv.intToInt, Sem.run_pure]
theorem rconv {s d : TypeId} {kd ks kx : IntKind} [hs : KindT P s ks] [hd : KindT P d kd] {n : Int} (hk : k (.int kd (kd.wrap n)) w) : SemV P (convert s d (.int kx n)) k pn w := SemV.of (run_conv hs hd n w) hk
theorem run_sadd {t : TypeId} {x y : Operand} (a b : ByteArray) (h : a.size + b.size ≤ 9223372036854775807) (w : World) : (do eqGuard .add t x y (.string a) (.string b); binOp .add t (.string a) (.string b) : Sem Value).run P w = .ok (.string (a ++ b)) w := by
  rw [Sem.run_bind, eqGuard_str, Result.andThen_ok]
  have hm : ¬ (((a.size + b.size : Nat) : Int) > IntKind.i64.max) := by
    have : IntKind.i64.max = 9223372036854775807 := by decide
    rw [this]; omega
  unfold binOp
  simp only [Op.stringOp, if_neg hm]
  rfl
theorem rsadd {t : TypeId} {x y : Operand} {a b : ByteArray} (h : a.size + b.size ≤ 9223372036854775807) (hk : k (.string (a ++ b)) w) : SemV P (do eqGuard .add t x y (.string a) (.string b); binOp .add t (.string a) (.string b)) k pn w := SemV.of (run_sadd a b h w) hk
theorem run_ssl {t : TypeId} (ht : StrT P t) {s : ByteArray} {lo hi : Nat} (h1 : lo ≤ hi) (h2 : hi ≤ s.size) (w : World) : (Instr.sliceAt t (.string s) (some (.int .i64 lo)) (some (.int .i64 hi)) none).run P w = .ok (.string (s.extract lo hi)) w := by
  have a0 : (0 : Int) ≤ (lo : Int) ∧ (lo : Int) ≤ (hi : Int) := by omega
  have a1 : (0 : Int) ≤ (hi : Int) ∧ (hi : Int) ≤ (s.size : Int) := by omega
  unfold Instr.sliceAt
  simp only [Sem.run_bind, run_under ht.h, Result.andThen_ok]
  unfold Instr.slice
  simp [Sem.run_bind, run_under ht.h, Result.andThen_ok, Instr.sliceBounds, Instr.sliceBound, asIntOf, a0, a1]
  rw [if_pos h2, if_pos h1]
theorem rssl {t : TypeId} [ht : StrT P t] {s : ByteArray} {lo hi : Nat} {x y : Value} (hx : x = .int .i64 lo) (hy : y = .int .i64 hi) (h1 : lo ≤ hi) (h2 : hi ≤ s.size) (hk : k (.string (s.extract lo hi)) w) : SemV P (Instr.sliceAt t (.string s) (some x) (some y) none) k pn w := by
  subst hx hy
  exact SemV.of (run_ssl ht h1 h2 w) hk
theorem tssl {t : TypeId} [ht : StrT P t] {D : Nat → Prop} {k : Value → Prop} {s : ByteArray} {lo hi : Nat} {x y : Value} (hx : x = .int .i64 lo) (hy : y = .int .i64 hi) (h1 : lo ≤ hi) (h2 : hi ≤ s.size) (hk : k (.string (s.extract lo hi))) : TakeS P (Instr.sliceAt t (.string s) (some x) (some y) none) D k w := by
  subst hx hy
  rw [TakeS_iff]; exact ⟨_, fun w' _ => run_ssl ht h1 h2 w', hk⟩
/-! bytes turned into a text -/
theorem flat_u8 (l : List UInt8) : flat l = (l.map fun c => (c.toNat : Int)).map (Value.int .u8) := by
  induction l with
  | nil => rfl
  | cons x r ih => rw [flat_cons, ih]; rfl
theorem push_u8 : ∀ (l : List UInt8) (s : ByteArray), (l.map fun c => (c.toNat : Int)).foldl (fun r n => r.push (UInt8.ofNat n.toNat)) s = ⟨s.data ++ l.toArray⟩
  | [], s => by simp
  | c :: r, s => by
    rw [List.map_cons, List.foldl_cons, push_u8 r]
    simp [ByteArray.push]
theorem run_bstr {s d e : TypeId} (hs : P.underlying s = some (.slice e)) (he : P.underlying e = some (.int .u8)) (hd : P.underlying d = some .string) {a : Option Addr} {n c : Nat} {l : List UInt8} (h : SlF w (.slice a n c) l) :
    (convert s d (.slice a n c)).run P w = .ok (.string ⟨l.toArray⟩) w := by
  obtain rfl := h.len
  rw [run_convert_bytes_string w s d e a _ c hs he hd]
  have go : ∀ ad : Addr, (∀ j u, (flat l)[j]? = some u → w.cell? (ad.add j) = some u) → (Conv.bytesToString (.slice (some ad) l.length c)).run P w = .ok (.string ⟨l.toArray⟩) w := fun ad hat => by
    have hl : (flat l).length = l.length := by rw [flat_len]; exact Nat.mul_one _
    have h1 := run_loadCells_list (P := P) (w := w) ad (flat l) hat
    rw [hl, flat_u8] at h1
    rw [run_bytesToString w ad l.length c _ h1, push_u8]
    have e0 : ByteArray.empty.data ++ l.toArray = l.toArray := by show (#[] : Array UInt8) ++ l.toArray = _; simp
    rw [e0]
  obtain ⟨a', c', hv, hc, h2⟩ := h
  cases hv
  rcases h2 with rfl | ⟨b, o, rfl, hat⟩
  · cases a with
    | none => rfl
    | some ad => exact go ad (by simp)
  · exact go ⟨b, o, none⟩ fun j u hj => by rw [addr_add]; exact hat j u hj
class BytT (P : Program) (s d : TypeId) : Prop where
  e : ∃ e, P.underlying s = some (.slice e) ∧ P.underlying e = some (.int .u8)
  d : P.underlying d = some .string
theorem rbstr {s d : TypeId} [hb : BytT P s d] {a : Option Addr} {n c : Nat} {l : List UInt8} (h : SlF w (.slice a n c) l) (hk : k (.string ⟨l.toArray⟩) w) : SemV P (convert s d (.slice a n c)) k pn w := by
  obtain ⟨e, h1, h2⟩ := hb.e
  exact SemV.of (run_bstr h1 h2 hb.d h) hk
/-! bits -/
theorem run_shl {X Y : Operand} {t : TypeId} {x y : Int} (hy : 0 ≤ y ∧ y < 64) (w : World) : (do eqGuard .shl t X Y (.int .i64 x) (.int .i64 y); binOp .shl t (.int .i64 x) (.int .i64 y) : Sem Value).run P w = .ok (.int .i64 (IntKind.i64.wrap (x * 2 ^ y.toNat))) w := by
  have g : (eqGuard .shl t X Y (.int .i64 x) (.int .i64 y)).run P w = .ok () w := rfl
  rw [Sem.run_bind, g, Result.andThen_ok]
  have h1 : ¬ y < 0 := by omega
  have h2 : min y.toNat IntKind.i64.bits = y.toNat := by
    have : IntKind.i64.bits = 64 := rfl
    rw [this]; omega
  simp only [binOp, Op.shift, if_neg h1, h2]
  rfl
theorem rshl {X Y : Operand} {t : TypeId} {x y z : Int} (hy : 0 ≤ y ∧ y < 64) (hz : x * 2 ^ y.toNat = z) (hr : -9223372036854775808 ≤ z ∧ z ≤ 9223372036854775807) (hk : k (.int .i64 z) w) : SemV P (do eqGuard .shl t X Y (.int .i64 x) (.int .i64 y); binOp .shl t (.int .i64 x) (.int .i64 y)) k pn w := by
  have h := run_shl (P := P) (X := X) (Y := Y) (t := t) (x := x) hy w
  rw [hz, wrap_id hr.1 hr.2] at h
  exact SemV.of h hk
/-- two parts of a number that have no bit in common -/
theorem run_or {X Y : Operand} {t : TypeId} {x y i : Nat} (hx : x < 2 ^ i) (hr : x + y * 2 ^ i < 9223372036854775808) (w : World) : (do eqGuard .or t X Y (.int .i64 (x : Int)) (.int .i64 ((y * 2 ^ i : Nat) : Int)); binOp .or t (.int .i64 (x : Int)) (.int .i64 ((y * 2 ^ i : Nat) : Int)) : Sem Value).run P w = .ok (.int .i64 ((x + y * 2 ^ i : Nat) : Int)) w := by
  have g : (eqGuard .or t X Y (.int .i64 (x : Int)) (.int .i64 ((y * 2 ^ i : Nat) : Int))).run P w = .ok () w := rfl
  rw [Sem.run_bind, g, Result.andThen_ok]
  have hb : IntKind.i64.bits = 64 := rfl
  have e1 : (BitVec.ofInt 64 (x : Int) ||| BitVec.ofInt 64 ((y * 2 ^ i : Nat) : Int)).toNat = x + y * 2 ^ i := by
    rw [BitVec.ofInt_natCast, BitVec.ofInt_natCast, BitVec.toNat_or, BitVec.toNat_ofNat, BitVec.toNat_ofNat, Nat.mod_eq_of_lt (by omega), Nat.mod_eq_of_lt (by omega), Nat.or_comm, ← Nat.shiftLeft_eq, ← Nat.shiftLeft_add_eq_or_of_lt hx, Nat.add_comm]
  have e2 : (binOp .or t (.int .i64 (x : Int)) (.int .i64 ((y * 2 ^ i : Nat) : Int))).run P w = .ok (.int .i64 (IntKind.i64.wrap ((BitVec.ofInt 64 (x : Int) ||| BitVec.ofInt 64 ((y * 2 ^ i : Nat) : Int)).toNat : Nat))) w := rfl
  rw [e2, e1, wrap_id (by omega) (by omega)]
end
end Go.W
