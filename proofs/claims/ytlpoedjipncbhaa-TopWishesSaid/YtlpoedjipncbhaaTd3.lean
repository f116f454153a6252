/-
  Maps of the call's own (numbers, marks) as facts of a walk's state, whatever their keys.
-/
import Derived.Test.YtlpoedjipncbhaaProg
import Derived.Test.YtlpoedjipncbhaaS0
import Derived.Maps.OwnSet
import Derived.Maps.Views
import Derived.Maps.OwnOps
import Derived.Maps.Keyed
namespace Go.Proofs.Ytlpoedjipncbhaa
open Go.RowKit Go.Shelf Go.Maps
set_option linter.unusedVariables false
set_option maxHeartbeats 400000

open Classical in
/-- one more entry -/
noncomputable def fput {β : Type} (f : Lit → Option β) (kl : Lit) (v : β) : Lit → Option β := fun x => if x = kl then some v else f x
/-- block b is a map of at most n entries that says f -/
def FMap (k e : TypeId) (b n : Nat) (f : Lit → Option Int) (w : World) : Prop :=
  ∃ D : DataW Unit, w.ownsMap Try.prog k (plainElem Try.prog e) b n D ∧ Maps.Tidy D ∧ ∀ kl, Maps.has D kl = (f kl).isSome ∧ D.atKey kl (.lit (.int .i64 0)) = .lit (.int .i64 ((f kl).getD 0))
def BMap (k e : TypeId) (b n : Nat) (f : Lit → Option Bool) (w : World) : Prop :=
  ∃ D : DataW Unit, w.ownsMap Try.prog k (plainElem Try.prog e) b n D ∧ Maps.Tidy D ∧ ∀ kl, Maps.has D kl = (f kl).isSome ∧ D.atKey kl (.lit (.bool false)) = .lit (.bool ((f kl).getD false))
theorem FMap.made (k e : TypeId) (w : World) : FMap k e w.heap.size 0 (fun _ => none) (w.alloc (.map #[] 0)) :=
  ⟨.map [], World.ownsMap_made _ _ _ _, tidy_empty, fun kl => ⟨rfl, rfl⟩⟩
theorem BMap.made (k e : TypeId) (w : World) : BMap k e w.heap.size 0 (fun _ => none) (w.alloc (.map #[] 0)) :=
  ⟨.map [], World.ownsMap_made _ _ _ _, tidy_empty, fun kl => ⟨rfl, rfl⟩⟩
theorem FMap.look {k e t : TypeId} {b n : Nat} {f : Lit → Option Int} {w : World} (h : FMap k e b n f w) (K : Keyed Try.prog k) (ht : Try.prog.underlying t = some (.map k e)) (he : Try.prog.underlying e = some (.int .i64))
    (hz : (zeroValue e).run Try.prog w = .ok (.int .i64 0) w) {key : Value} {kl : Lit} (hkey : keyOf Try.prog k key = some kl) :
    (Instr.lookup t (.map (some b)) key true).run Try.prog w = .ok (.tuple #[.int .i64 ((f kl).getD 0), .bool (f kl).isSome]) w := by
  obtain ⟨D, ho, _, hf⟩ := h
  obtain ⟨v, ps, hrun, hv⟩ := ho.look_ok K ht hz (plainElem_int he (by decide)) hkey
  obtain ⟨c, rfl, hc, _⟩ := plainElem_int_inv he hv
  rw [(hf kl).2] at hc
  have hc2 : (f kl).getD 0 = c := by
    have := congrArg Prod.fst hc
    simpa using this
  rw [hrun, (hf kl).1, hc2]
theorem plainElem_bool_inv {H : Type} {e : TypeId} (he : Try.prog.underlying e = some .bool) {v : Value} {z : DataW H × List MemPlace} (h : plainElem Try.prog e v = some z) : ∃ a, v = .bool a ∧ z = (.lit (.bool a), []) := by
  unfold plainElem at h
  rw [he] at h
  cases v <;> simp at h
  exact ⟨_, rfl, h.symm⟩
theorem BMap.look {k e t : TypeId} {b n : Nat} {f : Lit → Option Bool} {w : World} (h : BMap k e b n f w) (K : Keyed Try.prog k) (ht : Try.prog.underlying t = some (.map k e)) (he : Try.prog.underlying e = some .bool)
    (hz : (zeroValue e).run Try.prog w = .ok (.bool false) w) {key : Value} {kl : Lit} (hkey : keyOf Try.prog k key = some kl) :
    (Instr.lookup t (.map (some b)) key false).run Try.prog w = .ok (.bool ((f kl).getD false)) w := by
  obtain ⟨D, ho, _, hf⟩ := h
  obtain ⟨v, ps, hrun, hv⟩ := ho.lookup K ht hz (plainElem_bool he false) hkey
  obtain ⟨c, rfl, hc⟩ := plainElem_bool_inv he hv
  rw [(hf kl).2] at hc
  have hc2 : (f kl).getD false = c := by
    have := congrArg Prod.fst hc
    simpa using this
  rw [hrun, hc2]
theorem FMap.store {k e t : TypeId} {b n : Nat} {f : Lit → Option Int} {w : World} (h : FMap k e b n f w) (K : Keyed Try.prog k) (ht : Try.prog.underlying t = some (.map k e)) (he : Try.prog.underlying e = some (.int .i64))
    (hn : n < maxLen) {key : Value} {kl : Lit} (hkey : keyOf Try.prog k key = some kl) {v : Int} (hw : (Lit.int .i64 v).wf = true) :
    ∃ w', (Instr.mapUpdate t (.map (some b)) key (.int .i64 v)).run Try.prog w = .ok () w' ∧ FMap k e b (n + 1) (fput f kl v) w' ∧ w.grownBy w' (some b) := by
  obtain ⟨D, ho, hT, hf⟩ := h
  obtain ⟨w', hrun, ho', hg⟩ := ho.update K ht hn hkey (plainElem_int he hw)
  have hk := K.key hkey
  refine ⟨w', hrun, ⟨_, ho', hT.put hk _, fun x => ?_⟩, hg⟩
  unfold fput
  by_cases hx : x = kl
  · subst hx
    rw [if_pos rfl]
    exact ⟨has_put_same hT.isMap hk _, atKey_put_same hT.isMap hk _ _⟩
  · rw [if_neg hx, has_put_other hx, atKey_put_other hx]
    exact hf x
theorem BMap.store {k e t : TypeId} {b n : Nat} {f : Lit → Option Bool} {w : World} (h : BMap k e b n f w) (K : Keyed Try.prog k) (ht : Try.prog.underlying t = some (.map k e)) (he : Try.prog.underlying e = some .bool)
    (hn : n < maxLen) {key : Value} {kl : Lit} (hkey : keyOf Try.prog k key = some kl) {v : Bool} :
    ∃ w', (Instr.mapUpdate t (.map (some b)) key (.bool v)).run Try.prog w = .ok () w' ∧ BMap k e b (n + 1) (fput f kl v) w' ∧ w.grownBy w' (some b) := by
  obtain ⟨D, ho, hT, hf⟩ := h
  obtain ⟨w', hrun, ho', hg⟩ := ho.update K ht hn hkey (plainElem_bool he v)
  have hk := K.key hkey
  refine ⟨w', hrun, ⟨_, ho', hT.put hk _, fun x => ?_⟩, hg⟩
  unfold fput
  by_cases hx : x = kl
  · subst hx
    rw [if_pos rfl]
    exact ⟨has_put_same hT.isMap hk _, atKey_put_same hT.isMap hk _ _⟩
  · rw [if_neg hx, has_put_other hx, atKey_put_other hx]
    exact hf x
theorem FMap.lt {k e : TypeId} {b n : Nat} {f : Lit → Option Int} {w : World} (h : FMap k e b n f w) : b < w.heap.size := by obtain ⟨D, h1, _⟩ := h; exact h1.lt
theorem BMap.lt {k e : TypeId} {b n : Nat} {f : Lit → Option Bool} {w : World} (h : BMap k e b n f w) : b < w.heap.size := by obtain ⟨D, h1, _⟩ := h; exact h1.lt
def Fct.fmap (k e : TypeId) (b n : Nat) (f : Lit → Option Int) : Fct :=
  ⟨fun c => c = b, FMap k e b n f, fun w w' h hm => by
    obtain ⟨D, ⟨es, clock, hb, r⟩, r2⟩ := hm
    exact ⟨D, ⟨es, clock, (h b rfl (Array.getElem?_eq_some_iff.1 hb).1).trans hb, r⟩, r2⟩⟩
def Fct.bmap (k e : TypeId) (b n : Nat) (f : Lit → Option Bool) : Fct :=
  ⟨fun c => c = b, BMap k e b n f, fun w w' h hm => by
    obtain ⟨D, ⟨es, clock, hb, r⟩, r2⟩ := hm
    exact ⟨D, ⟨es, clock, (h b rfl (Array.getElem?_eq_some_iff.1 hb).1).trans hb, r⟩, r2⟩⟩
theorem St.fmap {w0 w : World} {l : List Fct} (S : St w0 w l) (i : Nat) {k e : TypeId} {b n : Nat} {f : Lit → Option Int} (h : Fct.at l i = Fct.fmap k e b n f := by rfl) : FMap k e b n f w := by
  have := S.2 i
  rw [h] at this; exact this
theorem St.bmap {w0 w : World} {l : List Fct} (S : St w0 w l) (i : Nat) {k e : TypeId} {b n : Nat} {f : Lit → Option Bool} (h : Fct.at l i = Fct.bmap k e b n f := by rfl) : BMap k e b n f w := by
  have := S.2 i
  rw [h] at this; exact this
/-- a fact at one block takes another's place while that block alone turns -/
theorem St.turn {w0 w w1 : World} {l : List Fct} (S : St w0 w l) (i : Nat) {F F' : Fct} {b : Nat} (hi : Fct.at l i = F) (hf : ∀ c, F.foot c → c = b) (hm : F'.holds w1) (hg : w.grownBy w1 (some b)) (h0 : w0.heap.size ≤ b) (hoff : offs b i l) : St w0 w1 (fset l i F') := by
  refine ⟨S.bel.grown hg S.size (fun c hc => by cases hc; exact h0), fun j => ?_⟩
  by_cases hj : j = i
  · subst hj
    rcases at_fset_same F' l j with h | h
    · rw [h]; exact hm
    · rw [h]; trivial
  · rw [at_fset_other _ _ _ _ hj]
    exact (Fct.at l j).stable w w1 (fun c hc hl => hg.block c hl (fun e => by cases e; exact offs_at hoff j hj hc)) (S.2 j)
end Go.Proofs.Ytlpoedjipncbhaa
