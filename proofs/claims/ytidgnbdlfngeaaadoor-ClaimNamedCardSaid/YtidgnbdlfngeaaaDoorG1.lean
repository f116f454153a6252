/-
  A region that draws its order, walked in one order: a condition on the world holds behind each operation but one, the store at the end, which waits for all that rely on it; no program is named here.
-/
import Derived.OrdersHeld
import Derived.RegionTactic
import Derived.WalkKit
namespace Go.Proofs.YtidgnbdlfngeaaaDoor
open Go.RowKit
set_option linter.unusedVariables false

section
variable {P : Program} {ops : Array Oper} {Q : Exit → Act → World → Prop} {md : Region.Mode} {S : World → Prop} {st : Nat}

/-- whatever order is picked, the rest goes; S holds behind every operation but number st -/
def wpG (P : Program) (md : Region.Mode) (ops : Array Oper) (Q : Exit → Act → World → Prop) (S : World → Prop) (st : Nat) : Nat → Array Bool → Act → World → Prop
  | 0, listed, a, w => Region.ready md ops listed = [] ∧ Q .normal a w
  | fuel + 1, listed, a, w =>
    (Region.ready md ops listed = [] → Q .normal a w) ∧
    ∀ j ∈ Region.ready md ops listed, wpOp P ops Q j (fun b W => (j ≠ st → S W) ∧ wpG P md ops Q S st fuel (listed.setIfInBounds j true) b W) a w
theorem wpG.any : ∀ {fuel : Nat} {listed : Array Bool} {a : Act} {w : World}, wpG P md ops Q S st fuel listed a w → wpAny P md ops Q fuel listed a w
  | 0, _, _, _, h => h
  | _ + 1, _, _, _, h => ⟨h.1, fun j hj => wpOp_mono (fun _ _ hb => wpG.any hb.2) (h.2 j hj)⟩
/-- does number s wait for number i, by a row of edges? -/
def reachB (md : Region.Mode) (ops : Array Oper) : Nat → Nat → Nat → Bool
  | 0, _, _ => false
  | n + 1, s, i => ((ops[s]?).map fun o => o.after.any fun e => Region.binds md e && (e.on == i || reachB md ops n e.on i)).getD false
/-- what is waited for has been carried out -/
def ClosedL (md : Region.Mode) (ops : Array Oper) (listed : Array Bool) : Prop := ∀ j o, ops[j]? = some o → listed.getD j false = true → ∀ e ∈ o.after, Region.binds md e = true → listed.getD e.on false = true
theorem reachB.listed {listed : Array Bool} (hc : ClosedL md ops listed) : ∀ {n s i : Nat}, reachB md ops n s i = true → (∀ o, ops[s]? = some o → ∀ e ∈ o.after, Region.binds md e = true → listed.getD e.on false = true) → listed.getD i false = true
  | 0, _, _, h, _ => by simp [reachB] at h
  | n + 1, s, i, h, hs => by
    rw [reachB] at h
    cases ho : ops[s]? with
    | none => rw [ho] at h; simp at h
    | some o =>
      rw [ho] at h
      simp only [Option.map_some, Option.getD_some] at h
      obtain ⟨k, hk, h3⟩ := Array.any_eq_true.1 h
      rw [Bool.and_eq_true, Bool.or_eq_true] at h3
      have hl := hs o ho o.after[k] (Array.getElem_mem hk) h3.1
      rcases h3.2 with h4 | h4
      · rw [← show o.after[k].on = i by simpa using h4]; exact hl
      · exact reachB.listed hc h4 (fun o' ho' e he hb => hc _ o' ho' hl e he hb)
def waitsB (md : Region.Mode) (ops : Array Oper) (st i : Nat) : Bool := st != i && reachB md ops ops.size st i
/-- a Bool for ClosedL -/
def closedB (md : Region.Mode) (ops : Array Oper) (listed : Array Bool) : Bool := (List.range ops.size).all fun j => !listed.getD j false || ((ops[j]?).map fun o => o.after.all fun e => !Region.binds md e || listed.getD e.on false).getD true
theorem closedB.out {listed : Array Bool} (h : closedB md ops listed = true) : ClosedL md ops listed := fun j o ho hl e he hb => by
  have hj : j < ops.size := (Array.getElem?_eq_some_iff.1 ho).1
  have h1 := List.all_eq_true.1 h j (by simpa using hj)
  rw [hl, ho] at h1
  simp only [Option.map_some, Option.getD_some, Bool.not_true, Bool.false_or] at h1
  have h2 := Array.all_eq_true'.1 h1 e he
  rw [hb] at h2
  simpa using h2
theorem ClosedL.set {listed : Array Bool} (h : ClosedL md ops listed) {j : Nat} (hj : j ∈ Region.ready md ops listed) : ClosedL md ops (listed.setIfInBounds j true) := fun k o ho hl e he hb => by
  by_cases hkj : j = k
  · subst hkj
    obtain ⟨_, oj, hoj, hall⟩ := mem_ready.1 hj
    rw [ho] at hoj
    obtain rfl := Option.some.inj hoj
    exact getD_set_true (hall e he hb)
  · rw [getD_set_ne false hkj] at hl
    exact getD_set_true (h k o ho hl e he hb)
theorem wpG.first {i : Nat} {oi : Oper} {v : Value} (hi : ops[i]? = some oi) (hsel : ∀ (j : Nat) (o : Oper) cs b, ops[j]? = some o → o.op ≠ .select cs b)
    (hQ : ∀ c a w, Q (.panic c) (a.put oi.dst v) w → Q (.panic c) a w) (hst : waitsB md ops st i = true) :
    ∀ (fuel : Nat) (listed : Array Bool) (a : Act) (w : World), ClosedL md ops listed →
      (∀ j oj, ops[j]? = some oj → j ≠ i → listed.getD j true = false → (∀ e ∈ oj.after, Region.binds md e = true → e.on ≠ i) → oi.apart ops oj = true) →
      i ∈ Region.ready md ops listed → YieldsIf P ops S oi v a → S w →
      wpG P md ops Q S st fuel (listed.setIfInBounds i true) (a.put oi.dst v) w → wpG P md ops Q S st (fuel + 1) listed a w := by
  intro fuel
  induction fuel with
  | zero =>
    intro listed a w _ _ hr hy hS H
    refine ⟨fun e => (by rw [e] at hr; cases hr), fun j hj => ?_⟩
    by_cases e : j = i
    · rw [e]; exact hy.wpOp hi hS ⟨fun _ => hS, H⟩
    · have h0 := ready_mono hj e
      rw [H.1] at h0; cases h0
  | succ fuel ih =>
    intro listed a w hcl hf hr hy hS H
    refine ⟨fun e => (by rw [e] at hr; cases hr), fun j hj => ?_⟩
    by_cases e : j = i
    · rw [e]; exact hy.wpOp hi hS ⟨fun _ => hS, H⟩
    obtain ⟨hun, oj, hoj, hedges⟩ := mem_ready.1 hj
    have hno : ∀ d ∈ oj.after, Region.binds md d = true → d.on ≠ i := by
      intro d hd hb he
      have h1 := hedges d hd hb
      have h0 := (mem_ready.1 hr).1
      rw [he] at h1
      simp only [Array.getD] at h0 h1
      split at h1
      · rename_i hlt; rw [dif_pos hlt] at h0; rw [h0] at h1; cases h1
      · cases h1
    have hjs : j ≠ st := by
      intro ejs
      have hst' := hst
      unfold waitsB at hst'
      rw [Bool.and_eq_true] at hst'
      have h1 := reachB.listed hcl hst'.2 (fun o ho d hd hb => by
        rw [← ejs, hoj] at ho
        obtain rfl := Option.some.inj ho
        exact hedges d hd hb)
      have h0 := (mem_ready.1 hr).1
      simp only [Array.getD] at h0 h1
      split at h1
      · rename_i hlt; rw [dif_pos hlt] at h0; rw [h0] at h1; cases h1
      · cases h1
    refine wpOp_mono (fun b W hb => ?_) (wpOp_putIf hoj (hf j oj hoj e hun hno) (fun cs b => hsel i oi cs b hi) (fun cs b => hsel j oj cs b hoj) hQ hy (H.2 j (ready_mono hj e)))
    obtain ⟨hy', hS', hG⟩ := hb
    have hSW := hS' hjs
    refine ⟨fun _ => hSW, ih _ b W (hcl.set hj) (fun k ok hok hki hkun hkno => hf k ok hok hki ?_ hkno) (ready_mono hr (fun x => e x.symm)) hy' hSW ?_⟩
    · by_cases hjk : j = k
      · rw [← hjk]; exact hun
      · rw [getD_set_ne true hjk] at hkun; exact hkun
    · rw [Array.setIfInBounds_comm _ _ e]; exact hG
/-- take number i now -/
theorem wpG.take {i fuel : Nat} {listed : Array Bool} {a : Act} {w : World} (hs : Region.noSelect ops = true) (hf : Region.free md ops listed i = true) (hr : (Region.ready md ops listed).contains i = true) (hst : waitsB md ops st i = true) (hcl : closedB md ops listed = true)
    (hS : S w)
    (h : ∀ oi, ops[i]? = some oi → ∃ v, YieldsIf P ops S oi v a ∧ (∀ c b W, Q (.panic c) (Act.put b oi.dst v) W → Q (.panic c) b W) ∧ wpG P md ops Q S st fuel (listed.setIfInBounds i true) (a.put oi.dst v) w) : wpG P md ops Q S st (fuel + 1) listed a w := by
  have hr' : i ∈ Region.ready md ops listed := by simpa using hr
  obtain ⟨_, oi, ho, _⟩ := mem_ready.1 hr'
  obtain ⟨v, hy, hQ, hG⟩ := h oi ho
  exact wpG.first ho (Region.noSelect_spec hs) hQ hst fuel listed a w (closedB.out hcl) (Region.free_spec ho hf) hr' hy hS hG
/-- number i is the only one that may come -/
theorem wpG.one {i fuel : Nat} {listed : Array Bool} {a : Act} {w : World} (hr : Region.ready md ops listed = [i])
    (h : ∀ o, ops[i]? = some o → ∀ K' : Act → World → Prop, (∀ b W, (i ≠ st → S W) → wpG P md ops Q S st fuel (listed.setIfInBounds i true) b W → K' b W) → if Region.wanted o (yielded ops a.tmps) = true then Oper.wp P o a w K' Q else K' (a.put o.dst undef) w) : wpG P md ops Q S st (fuel + 1) listed a w := by
  refine ⟨fun e => (by rw [hr] at e; cases e), fun j hj => ?_⟩
  rw [hr] at hj
  obtain rfl : j = i := by simpa using hj
  have hm : j ∈ Region.ready md ops listed := by rw [hr]; exact List.mem_singleton.2 rfl
  obtain ⟨_, o, ho, _⟩ := mem_ready.1 hm
  exact wpOp_step ho fun K' hK => h o ho K' fun b W h1 h2 => hK _ _ ⟨h1, h2⟩
theorem wpG.done {listed : Array Bool} {a : Act} {w : World} {fuel : Nat} (hr : Region.ready md ops listed = []) (h : Q .normal a w) : wpG P md ops Q S st fuel listed a w := by
  cases fuel with
  | zero => exact ⟨hr, h⟩
  | succ fuel => exact ⟨fun _ => h, by rw [hr]; simp⟩
/-- the beginning -/
theorem wpG_region (st : Nat) (S : World → Prop) {id : Nat} {a : Act} {w : World} (hm : P.follows .mixedOrders = true) (h : wpG P .any ops Q S st ops.size (Array.replicate ops.size false) a w.drew) : (Code.region id ops true).wp P Q a w :=
  wp_region_any hm h.any
end
end Go.Proofs.YtidgnbdlfngeaaaDoor
