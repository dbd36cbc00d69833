/-
  Proved here: append, and where the row lies behind it: in its own block still, or in a new one.
  Conditions: those that each fact names.
-/
import Derived.Test.YtgplodgpbhddbaaW24
namespace Go.W
open Go
open Enc (enc)
section
variable {α : Type} [Enc α] {P : Program} {k : Value → World → Prop} {pn : List PanicEntry → World → Prop} {w : World}
theorem app_blk {t ty e : TypeId} {z : Value} {sz by' : Nat} (ht : SlT P t e) (he : Elem P e z sz by') (hsz : Enc.sz α = sz) {B : Nat} {v x : Value} {l m : List α}
    (hO : Own B e w v l) (hS : SlF w x m) (hne : m ≠ []) (hb : (l.length + m.length) * by' ≤ 140737488355328) (hm : l.length + m.length ≤ maxLen) {v' : Value} {w' : World} (h : (Builtin.append_ #[t, t] ty #[v, x]).run P w = .ok v' w') :
    Value.blk v' = Value.blk v ∨ Value.blk v' = some w.heap.size := by
  obtain ⟨i, hi, hz, hs, hby⟩ := info_parts he.h
  subst hsz
  obtain ⟨xa, xc, rfl, hxc, hx⟩ := hS
  rcases hx with hx | ⟨b, o, rfl, hat⟩
  · exact absurd hx hne
  have hnews : ∀ j u, (flat m)[j]? = some u → w.cell? ((⟨b, o, none⟩ : Addr).add j) = some u := fun j u hj => by rw [addr_add]; exact hat j u hj
  have hl : (flat m).length = m.length * Enc.sz α := flat_len m
  have hpos : 0 < m.length := List.length_pos_iff.2 hne
  have hml : m.length ≤ maxLen := by omega
  have nil : (Builtin.append_ #[t, t] ty #[.slice none 0 0, .slice (some ⟨b, o, none⟩) m.length xc]).run P w = .ok v' w' → l.length = 0 → Value.blk v' = some w.heap.size := fun h h0 => by
    have hr := run_append_nil (P := P) w t ty e i z ht.h hi hz ⟨b, o, none⟩ m.length xc (flat m) (by rw [hl, hs]) hnews (by omega) (by simp only [maxLen] at hm; omega) (by rw [hby]; have hb := hb; rw [h0, Nat.zero_add] at hb; omega)
    rw [hr] at h; cases h; rfl
  have grow : ∀ (a : Addr) (n cap : Nat) (xs : List Value), xs.length = n * i.size → (∀ j u, xs[j]? = some u → w.cell? (a.add j) = some u) → cap < n + m.length → n = l.length →
      (Builtin.append_ #[t, t] ty #[.slice (some a) n cap, .slice (some ⟨b, o, none⟩) m.length xc]).run P w = .ok v' w' → Value.blk v' = some w.heap.size := fun a n cap xs h1 h2 h3 h4 h => by
    subst h4
    have hr := run_append_grow (P := P) w t ty e i z ht.h hi hz a l.length cap xs h1 h2 ⟨b, o, none⟩ m.length xc (flat m) (by rw [hl, hs]) hnews (by omega) (by simp only [maxLen] at hm; omega)
      (by rw [hby]; exact growslice_fits (by omega) hb)
    rw [hr] at h; cases h; rfl
  rcases hO with ⟨rfl, a, rfl⟩ | hO
  · cases a with
    | none => exact .inr (nil h rfl)
    | some a => exact .inr (grow a 0 0 [] (by simp) (by simp) (by omega) rfl h)
  · rcases hO.2 with ⟨rfl, hn⟩ | ⟨g, cap, cur, rfl, hbg, hg, hnc, hcm, hcs, htake⟩
    · exact .inr (nil h hn)
    · by_cases hroom : l.length + m.length ≤ cap
      · left
        have hfit : l.length * i.size + (flat m).length ≤ cur.size := by rw [hl, hcs, hs, ← Nat.add_mul]; exact Nat.mul_le_mul_right _ hroom
        have hr := run_append_room (P := P) w t ty e i ht.h hi g l.length cap cur hg ⟨b, o, none⟩ m.length xc (flat m) (by rw [hl, hs]) hnews (flat_one m) hroom hfit
        rw [hr] at h; cases h; rfl
      · exact .inr (grow ⟨g, 0, none⟩ l.length cap (flat l) (by rw [flat_len, hs]) (fun j u hj => (hO.cells (g := g) rfl) j u hj) (by omega) rfl h)
theorem rappD {t ty e : TypeId} {z : Value} {sz by' : Nat} [ht : SlT P t e] [he : Elem P e z sz by'] {B : Nat} {v x : Value} {l m : List α} (hsz : Enc.sz α = sz ∧ z.cells.size = sz)
    (hO : Own B e w v l) (hS : SlF w x m) (hne : m ≠ []) (hB : B ≤ w.heap.size) (hb : (l.length + m.length) * by' ≤ 140737488355328 ∧ l.length + m.length ≤ 9223372036854775807)
    (hk : ∀ v' w', Own B e w' v' (l ++ m) → Fr (ownD B v) w w' → (Value.blk v' = Value.blk v ∨ Value.blk v' = some w.heap.size) → k v' w') : SemV P (Builtin.append_ #[t, t] ty #[v, x]) k pn w := by
  obtain ⟨v', w', h1, h2, h3⟩ := run_app (ty := ty) ht he hsz.1 hsz.2 hO hS hb.1 (by unfold maxLen; omega) hB
  exact SemV.of h1 (hk _ _ h2 h3 (app_blk ht he hsz.1 hO hS hne hb.1 (by unfold maxLen; omega) h1))
end
end Go.W
