/-
  A region that draws its order, walked in one order: a condition on the world holds behind each operation but some, the stores at the end, which wait for all that rely on it; no program is named here.
-/
import Derived.Test.YtacaakcpkgipfaaG1
import Derived.OrdersHeld
import Derived.RegionTactic
import Derived.WalkKit
namespace Go.Proofs.Ytacaakcpkgipfaa
open Go.RowKit
set_option linter.unusedVariables false

section
variable {P : Program} {ops : Array Oper} {Q : Exit → Act → World → Prop} {md : Region.Mode} {S : World → Prop} {sts : List Nat}

/-- whatever order is picked, the rest goes; S holds behind every operation but number st -/
def wpH (P : Program) (md : Region.Mode) (ops : Array Oper) (Q : Exit → Act → World → Prop) (S : World → Prop) (sts : List Nat) : Nat → Array Bool → Act → World → Prop
  | 0, listed, a, w => Region.ready md ops listed = [] ∧ Q .normal a w
  | fuel + 1, listed, a, w =>
    (Region.ready md ops listed = [] → Q .normal a w) ∧
    ∀ j ∈ Region.ready md ops listed, wpOp P ops Q j (fun b W => (j ∉ sts → S W) ∧ wpH P md ops Q S sts fuel (listed.setIfInBounds j true) b W) a w
theorem wpH.any : ∀ {fuel : Nat} {listed : Array Bool} {a : Act} {w : World}, wpH P md ops Q S sts fuel listed a w → wpAny P md ops Q fuel listed a w
  | 0, _, _, _, h => h
  | _ + 1, _, _, _, h => ⟨h.1, fun j hj => wpOp_mono (fun _ _ hb => wpH.any hb.2) (h.2 j hj)⟩
theorem wpH.first {i : Nat} {oi : Oper} {v : Value} (hi : ops[i]? = some oi) (hsel : ∀ (j : Nat) (o : Oper) cs b, ops[j]? = some o → o.op ≠ .select cs b)
    (hQ : ∀ c a w, Q (.panic c) (a.put oi.dst v) w → Q (.panic c) a w) (hst : ∀ s ∈ sts, waitsB md ops s i = true) :
    ∀ (fuel : Nat) (listed : Array Bool) (a : Act) (w : World), ClosedL md ops listed →
      (∀ j oj, ops[j]? = some oj → j ≠ i → listed.getD j true = false → (∀ e ∈ oj.after, Region.binds md e = true → e.on ≠ i) → oi.apart ops oj = true) →
      i ∈ Region.ready md ops listed → YieldsIf P ops S oi v a → S w →
      wpH P md ops Q S sts fuel (listed.setIfInBounds i true) (a.put oi.dst v) w → wpH P md ops Q S sts (fuel + 1) listed a w := by
  intro fuel
  induction fuel with
  | zero =>
    intro listed a w _ _ hr hy hS H
    refine ⟨fun e => (by rw [e] at hr; cases hr), fun j hj => ?_⟩
    by_cases e : j = i
    · rw [e]; exact hy.wpOp hi hS ⟨fun _ => hS, H⟩
    · have h0 := ready_mono hj e
      rw [H.1] at h0; cases h0
  | succ fuel ih =>
    intro listed a w hcl hf hr hy hS H
    refine ⟨fun e => (by rw [e] at hr; cases hr), fun j hj => ?_⟩
    by_cases e : j = i
    · rw [e]; exact hy.wpOp hi hS ⟨fun _ => hS, H⟩
    obtain ⟨hun, oj, hoj, hedges⟩ := mem_ready.1 hj
    have hno : ∀ d ∈ oj.after, Region.binds md d = true → d.on ≠ i := by
      intro d hd hb he
      have h1 := hedges d hd hb
      have h0 := (mem_ready.1 hr).1
      rw [he] at h1
      simp only [Array.getD] at h0 h1
      split at h1
      · rename_i hlt; rw [dif_pos hlt] at h0; rw [h0] at h1; cases h1
      · cases h1
    have hjs : j ∉ sts := by
      intro ejs
      have hst' := hst j ejs
      unfold waitsB at hst'
      rw [Bool.and_eq_true] at hst'
      have h1 := reachB.listed hcl hst'.2 (fun o ho d hd hb => by
        rw [hoj] at ho
        obtain rfl := Option.some.inj ho
        exact hedges d hd hb)
      have h0 := (mem_ready.1 hr).1
      simp only [Array.getD] at h0 h1
      split at h1
      · rename_i hlt; rw [dif_pos hlt] at h0; rw [h0] at h1; cases h1
      · cases h1
    refine wpOp_mono (fun b W hb => ?_) (wpOp_putIf hoj (hf j oj hoj e hun hno) (fun cs b => hsel i oi cs b hi) (fun cs b => hsel j oj cs b hoj) hQ hy (H.2 j (ready_mono hj e)))
    obtain ⟨hy', hS', hG⟩ := hb
    have hSW := hS' hjs
    refine ⟨fun _ => hSW, ih _ b W (hcl.set hj) (fun k ok hok hki hkun hkno => hf k ok hok hki ?_ hkno) (ready_mono hr (fun x => e x.symm)) hy' hSW ?_⟩
    · by_cases hjk : j = k
      · rw [← hjk]; exact hun
      · rw [getD_set_ne true hjk] at hkun; exact hkun
    · rw [Array.setIfInBounds_comm _ _ e]; exact hG
/-- take number i now -/
theorem wpH.take {i fuel : Nat} {listed : Array Bool} {a : Act} {w : World} (hs : Region.noSelect ops = true) (hf : Region.free md ops listed i = true) (hr : (Region.ready md ops listed).contains i = true) (hst : (sts.all fun s => waitsB md ops s i) = true) (hcl : closedB md ops listed = true)
    (hS : S w)
    (h : ∀ oi, ops[i]? = some oi → ∃ v, YieldsIf P ops S oi v a ∧ (∀ c b W, Q (.panic c) (Act.put b oi.dst v) W → Q (.panic c) b W) ∧ wpH P md ops Q S sts fuel (listed.setIfInBounds i true) (a.put oi.dst v) w) : wpH P md ops Q S sts (fuel + 1) listed a w := by
  have hr' : i ∈ Region.ready md ops listed := by simpa using hr
  obtain ⟨_, oi, ho, _⟩ := mem_ready.1 hr'
  obtain ⟨v, hy, hQ, hG⟩ := h oi ho
  exact wpH.first ho (Region.noSelect_spec hs) hQ (fun s h => List.all_eq_true.1 hst s h) fuel listed a w (closedB.out hcl) (Region.free_spec ho hf) hr' hy hS hG
/-- number i is the only one that may come -/
theorem wpH.one {i fuel : Nat} {listed : Array Bool} {a : Act} {w : World} (hr : Region.ready md ops listed = [i])
    (h : ∀ o, ops[i]? = some o → ∀ K' : Act → World → Prop, (∀ b W, (i ∉ sts → S W) → wpH P md ops Q S sts fuel (listed.setIfInBounds i true) b W → K' b W) → if Region.wanted o (yielded ops a.tmps) = true then Oper.wp P o a w K' Q else K' (a.put o.dst undef) w) : wpH P md ops Q S sts (fuel + 1) listed a w := by
  refine ⟨fun e => (by rw [hr] at e; cases e), fun j hj => ?_⟩
  rw [hr] at hj
  obtain rfl : j = i := by simpa using hj
  have hm : j ∈ Region.ready md ops listed := by rw [hr]; exact List.mem_singleton.2 rfl
  obtain ⟨_, o, ho, _⟩ := mem_ready.1 hm
  exact wpOp_step ho fun K' hK => h o ho K' fun b W h1 h2 => hK _ _ ⟨h1, h2⟩
theorem wpH.done {listed : Array Bool} {a : Act} {w : World} {fuel : Nat} (hr : Region.ready md ops listed = []) (h : Q .normal a w) : wpH P md ops Q S sts fuel listed a w := by
  cases fuel with
  | zero => exact ⟨hr, h⟩
  | succ fuel => exact ⟨fun _ => h, by rw [hr]; simp⟩
/-- the beginning -/
theorem wpH_region (sts : List Nat) (S : World → Prop) {id : Nat} {a : Act} {w : World} (hm : P.follows .mixedOrders = true) (h : wpH P .any ops Q S sts ops.size (Array.replicate ops.size false) a w.drew) : (Code.region id ops true).wp P Q a w :=
  wp_region_any hm h.any
end
end Go.Proofs.Ytacaakcpkgipfaa
