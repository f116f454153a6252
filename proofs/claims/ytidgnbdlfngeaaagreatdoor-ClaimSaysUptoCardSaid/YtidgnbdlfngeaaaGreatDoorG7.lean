/-
  A region that draws its order, walked in one order: a condition on the world holds as long as none of some operations (the stores) has been carried out; what does not rest on it may be taken whenever it is ready; no program is named here.
-/
import Derived.Test.YtidgnbdlfngeaaaGreatDoorG1
import Derived.OrdersHeld
import Derived.RegionTactic
import Derived.WalkKit
namespace Go.Proofs.YtidgnbdlfngeaaaGreatDoor
open Go.RowKit
set_option linter.unusedVariables false

section
variable {P : Program} {ops : Array Oper} {Q : Exit → Act → World → Prop} {md : Region.Mode} {S : World → Prop} {sts : List Nat}

/-- none of these has been carried out -/
def noneB (sts : List Nat) (listed : Array Bool) : Bool := sts.all fun s => !listed.getD s false
theorem noneB_of_set {listed : Array Bool} {i : Nat} (h : noneB sts (listed.setIfInBounds i true) = true) : noneB sts listed = true := by
  refine List.all_eq_true.2 fun s hs => ?_
  have h1 := List.all_eq_true.1 h s hs
  by_cases e : i = s
  · subst e
    by_cases hi : i < listed.size
    · simp [Array.getD, hi] at h1
    · simp [Array.getD, hi]
  · rw [getD_set_ne false e] at h1; exact h1
/-- whatever order is picked, the rest goes; S holds as long as none of sts has been carried out -/
def wpT (P : Program) (md : Region.Mode) (ops : Array Oper) (Q : Exit → Act → World → Prop) (S : World → Prop) (sts : List Nat) : Nat → Array Bool → Act → World → Prop
  | 0, listed, a, w => Region.ready md ops listed = [] ∧ Q .normal a w
  | fuel + 1, listed, a, w =>
    (Region.ready md ops listed = [] → Q .normal a w) ∧
    ∀ j ∈ Region.ready md ops listed, wpOp P ops Q j (fun b W => (noneB sts (listed.setIfInBounds j true) = true → S W) ∧ wpT P md ops Q S sts fuel (listed.setIfInBounds j true) b W) a w
theorem wpT.any : ∀ {fuel : Nat} {listed : Array Bool} {a : Act} {w : World}, wpT P md ops Q S sts fuel listed a w → wpAny P md ops Q fuel listed a w
  | 0, _, _, _, h => h
  | _ + 1, _, _, _, h => ⟨h.1, fun j hj => wpOp_mono (fun _ _ hb => wpT.any hb.2) (h.2 j hj)⟩
theorem wpT.first {i : Nat} {oi : Oper} {v : Value} {C : World → Prop} (hns : i ∉ sts) (hi : ops[i]? = some oi) (hsel : ∀ (j : Nat) (o : Oper) cs b, ops[j]? = some o → o.op ≠ .select cs b)
    (hQ : ∀ c a w, Q (.panic c) (a.put oi.dst v) w → Q (.panic c) a w)
    (hC : ∀ (L : Array Bool) W, ClosedL md ops L → L.getD i true = false → (noneB sts L = true → S W) → C W) :
    ∀ (fuel : Nat) (listed : Array Bool) (a : Act) (w : World), ClosedL md ops listed →
      (∀ j oj, ops[j]? = some oj → j ≠ i → listed.getD j true = false → (∀ e ∈ oj.after, Region.binds md e = true → e.on ≠ i) → oi.apart ops oj = true) →
      i ∈ Region.ready md ops listed → YieldsIf P ops C oi v a → (noneB sts listed = true → S w) →
      wpT P md ops Q S sts fuel (listed.setIfInBounds i true) (a.put oi.dst v) w → wpT P md ops Q S sts (fuel + 1) listed a w := by
  intro fuel
  induction fuel with
  | zero =>
    intro listed a w hcl _ hr hy hS H
    refine ⟨fun e => (by rw [e] at hr; cases hr), fun j hj => ?_⟩
    by_cases e : j = i
    · rw [e]; exact hy.wpOp hi (hC _ _ hcl (mem_ready.1 hr).1 hS) ⟨fun h => hS (noneB_of_set h), H⟩
    · have h0 := ready_mono hj e
      rw [H.1] at h0; cases h0
  | succ fuel ih =>
    intro listed a w hcl hf hr hy hS H
    refine ⟨fun e => (by rw [e] at hr; cases hr), fun j hj => ?_⟩
    by_cases e : j = i
    · rw [e]; exact hy.wpOp hi (hC _ _ hcl (mem_ready.1 hr).1 hS) ⟨fun h => hS (noneB_of_set h), H⟩
    obtain ⟨hun, oj, hoj, hedges⟩ := mem_ready.1 hj
    have hno : ∀ d ∈ oj.after, Region.binds md d = true → d.on ≠ i := by
      intro d hd hb he
      have h1 := hedges d hd hb
      have h0 := (mem_ready.1 hr).1
      rw [he] at h1
      simp only [Array.getD] at h0 h1
      split at h1
      · rename_i hlt; rw [dif_pos hlt] at h0; rw [h0] at h1; cases h1
      · cases h1
    refine wpOp_mono (fun b W hb => ?_) (wpOp_putIf hoj (hf j oj hoj e hun hno) (fun cs b => hsel i oi cs b hi) (fun cs b => hsel j oj cs b hoj) hQ hy (H.2 j (ready_mono hj e)))
    obtain ⟨hy', hS', hG⟩ := hb
    have hSW : noneB sts (listed.setIfInBounds j true) = true → S W := fun h => by
      refine hS' (List.all_eq_true.2 fun s hs => ?_)
      have h1 := List.all_eq_true.1 h s hs
      by_cases es : i = s
      · subst es
        exact absurd hs hns
      · rw [Array.setIfInBounds_comm _ _ (fun x => e x.symm), getD_set_ne false es]; exact h1
    refine ⟨hSW, ih _ b W (hcl.set hj) (fun k ok hok hki hkun hkno => hf k ok hok hki ?_ hkno) (ready_mono hr (fun x => e x.symm)) hy' hSW ?_⟩
    · by_cases hjk : j = k
      · rw [← hjk]; exact hun
      · rw [getD_set_ne true hjk] at hkun; exact hkun
    · rw [Array.setIfInBounds_comm _ _ e]; exact hG
theorem wait_none {L : Array Bool} {i s : Nat} (hcl : ClosedL md ops L) (hL : L.getD i true = false) (hw : waitsB md ops s i = true) : L.getD s false = false := by
  cases hs : L.getD s false with
  | false => rfl
  | true =>
    exfalso
    unfold waitsB at hw
    rw [Bool.and_eq_true] at hw
    have h1 := reachB.listed hcl hw.2 (fun o ho d hd hb => hcl s o ho hs d hd hb)
    simp only [Array.getD] at hL h1
    split at h1
    · rename_i hlt; rw [dif_pos hlt] at hL; rw [hL] at h1; cases h1
    · cases h1
/-- take number i now: all the stores wait for it -/
theorem wpT.take {i fuel : Nat} {listed : Array Bool} {a : Act} {w : World} (hs : Region.noSelect ops = true) (hf : Region.free md ops listed i = true) (hr : (Region.ready md ops listed).contains i = true) (hst : (sts.all fun s => waitsB md ops s i) = true) (hcl : closedB md ops listed = true)
    (hS : noneB sts listed = true → S w)
    (h : ∀ oi, ops[i]? = some oi → ∃ v, YieldsIf P ops S oi v a ∧ (∀ c b W, Q (.panic c) (Act.put b oi.dst v) W → Q (.panic c) b W) ∧ wpT P md ops Q S sts fuel (listed.setIfInBounds i true) (a.put oi.dst v) w) : wpT P md ops Q S sts (fuel + 1) listed a w := by
  have hr' : i ∈ Region.ready md ops listed := by simpa using hr
  obtain ⟨_, oi, ho, _⟩ := mem_ready.1 hr'
  obtain ⟨v, hy, hQ, hG⟩ := h oi ho
  refine wpT.first (fun hi => ?_) ho (Region.noSelect_spec hs) hQ (fun L W hL hLi hN => hN (List.all_eq_true.2 fun s hs => ?_)) fuel listed a w (closedB.out hcl) (Region.free_spec ho hf) hr' hy hS hG
  · have := List.all_eq_true.1 hst i hi
    simp [waitsB] at this
  · rw [wait_none hL hLi (List.all_eq_true.1 hst s hs)]; rfl
/-- take number i now: it does not rest on the world -/
theorem wpT.pure {i fuel : Nat} {listed : Array Bool} {a : Act} {w : World} (hs : Region.noSelect ops = true) (hf : Region.free md ops listed i = true) (hr : (Region.ready md ops listed).contains i = true) (hns : sts.contains i = false) (hcl : closedB md ops listed = true)
    (hS : noneB sts listed = true → S w)
    (h : ∀ oi, ops[i]? = some oi → ∃ v, YieldsIf P ops (fun _ => True) oi v a ∧ (∀ c b W, Q (.panic c) (Act.put b oi.dst v) W → Q (.panic c) b W) ∧ wpT P md ops Q S sts fuel (listed.setIfInBounds i true) (a.put oi.dst v) w) : wpT P md ops Q S sts (fuel + 1) listed a w := by
  have hr' : i ∈ Region.ready md ops listed := by simpa using hr
  obtain ⟨_, oi, ho, _⟩ := mem_ready.1 hr'
  obtain ⟨v, hy, hQ, hG⟩ := h oi ho
  exact wpT.first (by simpa using hns) ho (Region.noSelect_spec hs) hQ (fun L W _ _ _ => trivial) fuel listed a w (closedB.out hcl) (Region.free_spec ho hf) hr' hy hS hG
/-- number i is the only one that may come -/
theorem wpT.one {i fuel : Nat} {listed : Array Bool} {a : Act} {w : World} (hr : Region.ready md ops listed = [i])
    (h : ∀ o, ops[i]? = some o → ∀ K' : Act → World → Prop, (∀ b W, (noneB sts (listed.setIfInBounds i true) = true → S W) → wpT P md ops Q S sts fuel (listed.setIfInBounds i true) b W → K' b W) → if Region.wanted o (yielded ops a.tmps) = true then Oper.wp P o a w K' Q else K' (a.put o.dst undef) w) : wpT P md ops Q S sts (fuel + 1) listed a w := by
  refine ⟨fun e => (by rw [hr] at e; cases e), fun j hj => ?_⟩
  rw [hr] at hj
  obtain rfl : j = i := by simpa using hj
  have hm : j ∈ Region.ready md ops listed := by rw [hr]; exact List.mem_singleton.2 rfl
  obtain ⟨_, o, ho, _⟩ := mem_ready.1 hm
  exact wpOp_step ho fun K' hK => h o ho K' fun b W h1 h2 => hK _ _ ⟨h1, h2⟩
theorem wpT.done {listed : Array Bool} {a : Act} {w : World} {fuel : Nat} (hr : Region.ready md ops listed = []) (h : Q .normal a w) : wpT P md ops Q S sts fuel listed a w := by
  cases fuel with
  | zero => exact ⟨hr, h⟩
  | succ fuel => exact ⟨fun _ => h, by rw [hr]; simp⟩
/-- the beginning -/
theorem wpT_region (sts : List Nat) (S : World → Prop) {id : Nat} {a : Act} {w : World} (hm : P.follows .mixedOrders = true) (h : wpT P .any ops Q S sts ops.size (Array.replicate ops.size false) a w.drew) : (Code.region id ops true).wp P Q a w :=
  wp_region_any hm h.any
end
end Go.Proofs.YtidgnbdlfngeaaaGreatDoor
