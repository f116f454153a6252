/-
  A region that draws its order, by an invariant over which operations have been carried out; no program is named here.
-/
import Derived.RegionTactic
import Derived.WalkKit
namespace Go.Proofs.Yteekoclfpehnpaa
open Go.RowKit
set_option linter.unusedVariables false

def updL (L : Nat → Bool) (i : Nat) : Nat → Bool := fun j => decide (j = i) || L j
def edgesB (md : Region.Mode) (ops : Array Oper) : Bool := (List.range ops.size).all fun i => ((ops[i]?).map fun o => o.after.all fun e => !Region.binds md e || decide (e.on < i)).getD true

section
variable {P : Program} {ops : Array Oper} {Q : Exit → Act → World → Prop} {md : Region.Mode}

theorem mem_ready {listed : Array Bool} {i : Nat} (h : i ∈ Region.ready md ops listed) : i < ops.size ∧ listed.getD i true = false ∧ ∃ o, ops[i]? = some o ∧ ∀ e ∈ o.after.toList, Region.binds md e = true → listed.getD e.on false = true := by
  unfold Region.ready at h
  rw [List.mem_filter] at h
  obtain ⟨h1, h2⟩ := h
  have hi : i < ops.size := by simpa using h1
  simp only [Bool.and_eq_true, Bool.not_eq_true'] at h2
  refine ⟨hi, h2.1, ops[i], by simp [hi], fun e he hb => ?_⟩
  have h3 := h2.2
  rw [Array.getElem?_eq_getElem hi] at h3
  simp only [Option.map_some, Option.getD_some] at h3
  have h4 := Array.all_eq_true'.1 h3 e (by simpa using he)
  rw [hb] at h4
  simpa using h4

theorem ready_nil {listed : Array Bool} (hs : listed.size = ops.size) (he : edgesB md ops = true) (h : Region.ready md ops listed = []) : ∀ i, i < ops.size → listed.getD i false = true := by
  intro i
  induction i using Nat.strongRecOn with
  | ind i ih =>
    intro hi
    cases hl : listed.getD i false with
    | true => rfl
    | false =>
      exfalso
      have hmem : i ∈ Region.ready md ops listed := by
        unfold Region.ready
        rw [List.mem_filter]
        refine ⟨by simpa using hi, ?_⟩
        have hl' : listed.getD i true = false := by
          have hi' : i < listed.size := by omega
          simp only [Array.getD, hi', dif_pos] at hl ⊢; exact hl
        simp only [hl', Bool.not_false, Bool.true_and]
        rw [Array.getElem?_eq_getElem hi]
        simp only [Option.map_some, Option.getD_some]
        refine Array.all_eq_true'.2 fun e hee => ?_
        have h1 := List.all_eq_true.1 he i (by simpa using hi)
        rw [Array.getElem?_eq_getElem hi] at h1
        simp only [Option.map_some, Option.getD_some] at h1
        have h2 := Array.all_eq_true'.1 h1 e hee
        cases hb : Region.binds md e with
        | false => simp
        | true =>
          rw [hb] at h2
          have h3 : e.on < i := by simpa using h2
          rw [ih e.on h3 (by omega)]
          simp
      rw [h] at hmem; cases hmem

def cnt (l : List Bool) : Nat := (l.filter fun b => !b).length
theorem cnt_set : ∀ (l : List Bool) (i : Nat), l[i]? = some false → cnt (l.set i true) + 1 = cnt l
  | [], i, h => by simp at h
  | b :: l, 0, h => by simp at h; subst h; simp [cnt]
  | b :: l, i + 1, h => by
    have := cnt_set l i (by simpa using h)
    cases b <;> simp [cnt] at this ⊢ <;> omega
theorem cnt_zero : ∀ (l : List Bool), cnt l = 0 → ∀ i, i < l.length → l[i]? = some true
  | [], _, i, h => by simp at h
  | b :: l, h, 0, _ => by cases b <;> simp [cnt] at h ⊢
  | b :: l, h, i + 1, hi => by
    have : cnt l = 0 := by cases b <;> simp [cnt] at h ⊢; exact h
    simpa using cnt_zero l this i (by simpa using hi)

theorem wpAny_inv (he : edgesB md ops = true) (Inv : (Nat → Bool) → Act → World → Prop)
    (step : ∀ L a w i o, ops[i]? = some o → Inv L a w → L i = false → (∀ e ∈ o.after.toList, Region.binds md e = true → L e.on = true) →
      ∀ K' : Act → World → Prop, (∀ a' w', Inv (updL L i) a' w' → K' a' w') → if Region.wanted o (yielded ops a.tmps) = true then Oper.wp P o a w K' Q else K' (a.put o.dst undef) w)
    (fin : ∀ L a w, (∀ i, i < ops.size → L i = true) → Inv L a w → Q .normal a w) :
    ∀ (fuel : Nat) (listed : Array Bool) (a : Act) (w : World), listed.size = ops.size → cnt listed.toList ≤ fuel → Inv (fun j => listed.getD j false) a w → wpAny P md ops Q fuel listed a w := by
  intro fuel
  induction fuel with
  | zero =>
    intro listed a w hs hc hI
    have hall : ∀ i, i < ops.size → listed.getD i false = true := fun i hi => by
      have h1 := cnt_zero listed.toList (by omega) i (by simpa [hs] using hi)
      have hi' : i < listed.size := by omega
      simp only [Array.getElem?_toList, Array.getElem?_eq_getElem hi', Option.some.injEq] at h1
      simp [Array.getD, hi', h1]
    refine ⟨?_, fin _ a w hall hI⟩
    cases hr : Region.ready md ops listed with
    | nil => rfl
    | cons i r =>
      have h1 := mem_ready (md := md) (ops := ops) (listed := listed) (i := i) (by rw [hr]; simp)
      have h2 := hall i h1.1
      have hi' : i < listed.size := by omega
      have h3 := h1.2.1
      simp only [Array.getD, hi', dif_pos] at h2 h3
      rw [h2] at h3; cases h3
  | succ fuel ih =>
    intro listed a w hs hc hI
    refine ⟨fun hr => fin _ a w (ready_nil hs he hr) hI, fun i hi => ?_⟩
    obtain ⟨hio, hli, o, ho, hed⟩ := mem_ready hi
    have hi' : i < listed.size := by omega
    have hli' : listed.getD i false = false := by
      simp only [Array.getD, hi', dif_pos] at hli ⊢; exact hli
    refine wpOp_step ho fun K hK => ?_
    refine step _ a w i o ho hI hli' hed K fun a' w' hI' => hK _ _ ?_
    have hcs : cnt (listed.setIfInBounds i true).toList + 1 = cnt listed.toList := by
      rw [Array.toList_setIfInBounds]
      refine cnt_set _ _ ?_
      rw [Array.getElem?_toList, Array.getElem?_eq_getElem hi']
      simp only [Array.getD, hi', dif_pos] at hli'
      exact congrArg some hli'
    refine ih _ a' w' (by simpa using hs) (by omega) ?_
    have e : (fun j => (listed.setIfInBounds i true).getD j false) = updL (fun j => listed.getD j false) i := by
      funext j
      simp only [updL]
      by_cases hj : j = i
      · subst hj; simp [Array.getD, hi']
      · simp only [hj, decide_false, Bool.false_or, Array.getD, Array.size_setIfInBounds]
        by_cases hjs : j < listed.size
        · simp only [hjs, dif_pos]
          show (listed.setIfInBounds i true)[j]'_ = listed[j]
          rw [Array.getElem_setIfInBounds_ne (by simpa using hjs) (by omega)]
        · simp [hjs]
    rw [e]; exact hI'

theorem wp_region_inv {id : Nat} {a : Act} {w : World} (hm : P.follows .mixedOrders = true) (he : edgesB .any ops = true) (Inv : (Nat → Bool) → Act → World → Prop) (h0 : Inv (fun _ => false) a w.drew)
    (step : ∀ L a w i o, ops[i]? = some o → Inv L a w → L i = false → (∀ e ∈ o.after.toList, Region.binds .any e = true → L e.on = true) →
      ∀ K' : Act → World → Prop, (∀ a' w', Inv (updL L i) a' w' → K' a' w') → if Region.wanted o (yielded ops a.tmps) = true then Oper.wp P o a w K' Q else K' (a.put o.dst undef) w)
    (fin : ∀ L a w, (∀ i, i < ops.size → L i = true) → Inv L a w → Q .normal a w) : (Code.region id ops true).wp P Q a w := by
  refine wp_region_any hm ?_
  refine wpAny_inv he Inv step fin ops.size _ a _ (by simp) (by simp [cnt]) ?_
  have e : (fun j => (Array.replicate ops.size false).getD j false) = fun _ => false := by
    funext j
    simp only [Array.getD, Array.size_replicate]
    split <;> simp
  rw [e]; exact h0
end
end Go.Proofs.Yteekoclfpehnpaa
