/-
  Proved here: worlds that only grow by blocks and draws, to the letter (what the library's sort asks of a closure).
  Conditions: those that each fact names.
-/
import Derived.Test.YtgplodgpbhddbaaW17
import Derived.Sort.Grow
import Derived.Deep.Draws
namespace Go.W
open Go
open Enc (enc)

/-- behind w, with new blocks and draws -/
def Gw (w w' : World) : Prop := ∃ q os, w' = Go.Sort.grow (w.drewN q) os
theorem Gw.refl (w : World) : Gw w w := ⟨0, #[], by simp [World.drewN]⟩
theorem Gw.trans {a b c : World} (h : Gw a b) (k : Gw b c) : Gw a c := by
  obtain ⟨q, os, rfl⟩ := h
  obtain ⟨q', os', rfl⟩ := k
  exact ⟨q + q', os ++ os', by simp [World.drewN, Go.Sort.grow, Nat.add_assoc, Array.append_assoc]⟩
theorem Nx.gw {w w' : World} {b : Nat} (n : Nx w w' b) : Gw w w' := by
  obtain ⟨o, rfl⟩ := n.g
  exact ⟨0, #[o], by rw [Go.Sort.alloc_eq_grow]; rfl⟩
theorem Gw.ext {w w' : World} (h : Gw w w') : Ext w w' := by
  obtain ⟨q, os, rfl⟩ := h
  exact ⟨rfl, rfl, rfl, by simp [Go.Sort.grow, World.drewN], fun b hb _ => by simp only [Go.Sort.grow, World.drewN]; exact Array.getElem?_append_left hb, fun b o hb _ => by simp only [Go.Sort.grow, World.drewN]; rw [Array.getElem?_append_left (blk_lt hb)]; exact hb⟩
section
variable {α : Type} [Enc α] {P : Program} {T : Tab} {n : Nat} {k : Value → World → Prop} {pn : List PanicEntry → World → Prop} {w : World}
theorem rbsN {t e : TypeId} {z : Value} {sz by' : Nat} [ht : SlT P t e] [he : Elem P e z sz by'] (xs : List α) (hsz : Enc.sz α = sz) {n : Nat} {vs : List Value} (hv : vs.map (fun v => v.cells.toList) = xs.map enc) (hn : xs.length = n) (hb : n * sz ≤ 16777216)
    (hk : ∀ b w', Nx w w' b → SlF w' (.slice (some ⟨b, 0, none⟩) n n) xs → k (.slice (some ⟨b, 0, none⟩) n n) w') : SemV P (Instr.buildSlice t n (partsOf vs 0).toArray) k pn w :=
  SemV.of (run_bs ht he hsz hv hn hb w) (hk _ _ (Nx.mk' w _) ((New.mk' w _ e).sl (by simp) hn))
theorem drawRE (hT : T.ok P = true) (hm : P.follows .mixedOrders = true) (D : Nat → Prop) (t : OT) {i : Nat} {ops : Array Oper} {Q : KS} {F : Nat → Value} {w : World} (ho : ordTOK ops t = true)
    (h : ∀ w', Stp w w' → Gw w w' → drawT P T n D ops.toList t F Q.nrm (fun c w => ∀ F', agree (wr (.region i ops true)) F F' → Q.pan F' c w) w') : DeepS P T n (.region i ops true) Q F w := by
  rw [DeepS_iff]
  intro md hmd a ha
  simp only [ordTOK, Bool.and_eq_true] at ho
  have hd := drawT_any hT (r := md) D ops F (wr (.region i ops true)) (fun t ht => ht) Q.nrm (fun c w => ∀ F', agree (wr (.region i ops true)) F F' → Q.pan F' c w) ho.1.1.1 ho.1.1.2 t ops.size (Array.replicate ops.size false) F _ a ho.1.2 ha (fun _ _ => rfl) ho.2 (h { w with drawn := w.drawn + 1 } ⟨Ext.drew w⟩ ⟨1, #[], by simp [World.drewN]⟩)
  refine Code.wpIn_mono ?_ (wpIn_region_any hm (anyIn_of_held _ _ _ _ hd))
  intro e a' w' hq
  cases e <;> simp only [LQ] at hq <;> simp only [KS.lift]
  · exact hq
  · obtain ⟨F', h1, h2, h3⟩ := hq; exact ⟨F', h1, h2, h3 F' h2⟩
end
end Go.W
