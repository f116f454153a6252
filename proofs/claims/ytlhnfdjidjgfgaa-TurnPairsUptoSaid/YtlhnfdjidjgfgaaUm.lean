/-
  A map of the call's own from variables to trees, as a fact on memory.
-/
import Derived.Test.YtlhnfdjidjgfgaaProg
import Derived.Test.YtlhnfdjidjgfgaaUn1
import Derived.Test.YtlhnfdjidjgfgaaSt3
import Derived.Test.YtlhnfdjidjgfgaaM2
import Derived.Maps.OwnSet
import Derived.Maps.Views
import Derived.Maps.OwnOps
import Derived.Maps.Keyed
import Derived.Maps.RangeWalk
import Derived.Maps.OwnIn
namespace Go.Proofs.Ytlhnfdjidjgfgaa
open Go.RowKit Go.Shelf Go.Maps
set_option linter.unusedVariables false
set_option maxHeartbeats 400000

/-- a tree's two cells -/
def treeV (c : Int × Option Addr × Nat × Nat) : Value := .agg #[.int .i64 c.1, .slice c.2.1 c.2.2.1 c.2.2.2]
open Classical in
/-- how a tree's value reads here: as itself -/
noncomputable def treeR (v : Value) : Option (DataW Value × List MemPlace) := if ∃ c, v = treeV c then some (.held v, []) else none
theorem treeR_mk (c : Int × Option Addr × Nat × Nat) : treeR (treeV c) = some (.held (treeV c), []) := by unfold treeR; rw [if_pos ⟨c, rfl⟩]
theorem treeR_inv {v : Value} {z : DataW Value × List MemPlace} (h : treeR v = some z) : ∃ c, v = treeV c ∧ z = (.held v, []) := by
  unfold treeR at h
  by_cases hc : ∃ c, v = treeV c
  · rw [if_pos hc] at h
    obtain ⟨c, rfl⟩ := hc
    exact ⟨c, rfl, by cases h; rfl⟩
  · rw [if_neg hc] at h; cases h
theorem zero38 (w : World) : (zeroValue 38).run Try.prog w = .ok (treeV (0, none, 0, 0)) w := by kernel_rfl
/-- the key of a variable -/
def kV (x : Nat) : Lit := .int .i64 (-(x : Int) - 1)
theorem kV_inj {x y : Nat} (h : kV x = kV y) : x = y := by
  unfold kV at h; injection h with _ h; omega
theorem kV_key (x : Nat) : WideAt.IsKeyLit (kV x) := by simp [WideAt.IsKeyLit, kV]
theorem kV_of {h : Int} (hn : h < 0) : Lit.int .i64 h = kV (-h - 1).toNat := by unfold kV; congr 1; omega

/-- block b is a map that holds the trees of M -/
def MapT (N : Nat) (p : Nat → Prop) (b : Nat) (M : PM) (w : World) : Prop :=
  ∃ (D : DataW Value) (n : Nat), w.ownsMap Try.prog 3 treeR b n D ∧ n + unb N M ≤ N ∧ Maps.IsMap D ∧
    (∀ x t, M x = some t → Maps.has D (kV x) = true ∧ ∃ v, (∀ zd, D.atKey (kV x) zd = .held v) ∧ TreeP p w v t) ∧
    (∀ kl, (∀ x t, M x = some t → kl ≠ kV x) → Maps.has D kl = false ∧ ∀ zd, D.atKey kl zd = zd)
theorem unb_empty (N : Nat) : unb N (fun _ => none) = N := by
  unfold unb
  rw [List.filter_eq_self.2 (fun _ _ => by simp), List.length_range]
theorem MapT.made (N : Nat) (p : Nat → Prop) (w : World) : MapT N p w.heap.size (fun _ => none) (w.alloc (.map #[] 0)) :=
  ⟨.map [], 0, World.ownsMap_made _ _ _ _, by rw [unb_empty]; omega, isMap_empty, (fun x t h => nomatch h), (fun kl _ => ⟨by simp [Maps.has], fun zd => by simp [DataW.atKey]⟩)⟩
theorem MapT.lt {N : Nat} {p : Nat → Prop} {b : Nat} {M : PM} {w : World} (h : MapT N p b M w) : b < w.heap.size := by
  obtain ⟨D, n, h1, _⟩ := h
  exact h1.lt
theorem MapT.carry {N : Nat} {p : Nat → Prop} {b : Nat} {M : PM} {w w' : World} (h : MapT N p b M w) (hb : w'.heap[b]? = w.heap[b]?) (hp : ∀ c, p c → c < w.heap.size → w'.heap[c]? = w.heap[c]?) : MapT N p b M w' := by
  obtain ⟨D, n, ⟨es, clock, hm, r⟩, r2, r3, r4, r5⟩ := h
  refine ⟨D, n, ⟨es, clock, hb.trans hm, r⟩, r2, r3, fun x t ht => ?_, r5⟩
  obtain ⟨h1, v, h2, h3⟩ := r4 x t ht
  exact ⟨h1, v, h2, h3.carry hp⟩
theorem MapT.kept {N : Nat} {p : Nat → Prop} {b : Nat} {M : PM} {w w' : World} (h : MapT N p b M w) (hb : Below w.heap.size w w') : MapT N p b M w' := h.carry (hb.block b h.lt) (fun c _ hc => hb.block c hc)
theorem law163 : Try.prog.underlying 163 = some (.map 3 38) := Try.underlying163
/-- a variable is looked up -/
theorem MapT.look {N : Nat} {p : Nat → Prop} {b : Nat} {M : PM} {w : World} (h : MapT N p b M w) {hd : Int} (hn : hd < 0) (hw : (Lit.int .i64 hd).wf = true) :
    (∃ t c, M (-hd - 1).toNat = some t ∧ TreeP p w (treeV c) t ∧ ∀ W : World, W.heap[b]? = w.heap[b]? → (Instr.lookup 163 (.map (some b)) (.int .i64 hd) true).run Try.prog W = .ok (.tuple #[treeV c, .bool true]) W) ∨
    (M (-hd - 1).toNat = none ∧ ∀ W : World, W.heap[b]? = w.heap[b]? → (Instr.lookup 163 (.map (some b)) (.int .i64 hd) true).run Try.prog W = .ok (.tuple #[treeV (0, none, 0, 0), .bool false]) W) := by
  obtain ⟨D, n, h1, h2, h3, h4, h5⟩ := h
  have key : ∀ W : World, W.heap[b]? = w.heap[b]? → ∃ v ps, (Instr.lookup 163 (.map (some b)) (.int .i64 hd) true).run Try.prog W = .ok (.tuple #[v, .bool (Maps.has D (kV (-hd - 1).toNat))]) W ∧ treeR v = some (D.atKey (kV (-hd - 1).toNat) (.held (treeV (0, none, 0, 0))), ps) := fun W hW => by
    obtain ⟨es, clock, hm, r⟩ := h1
    have h1' : W.ownsMap Try.prog 3 treeR b n D := ⟨es, clock, hW.trans hm, r⟩
    have := h1'.look_ok law3 law163 (zero38 W) (treeR_mk _) (keyOf_int_mk Try.underlying3 hw)
    rw [kV_of hn] at this
    exact this
  cases hm : M (-hd - 1).toNat with
  | some t =>
    obtain ⟨a1, u, a2, a3⟩ := h4 _ t hm
    obtain ⟨c, rfl⟩ : ∃ c, u = treeV c := by
      obtain ⟨v, ps, _, hv⟩ := key w rfl
      rw [a2] at hv
      obtain ⟨c, rfl, hz⟩ := treeR_inv hv
      exact ⟨c, by have := congrArg Prod.fst hz; simpa using this⟩
    refine .inl ⟨t, c, rfl, a3, fun W hW => ?_⟩
    obtain ⟨v, ps, hrun, hv⟩ := key W hW
    rw [a2] at hv
    obtain ⟨c', rfl, hz⟩ := treeR_inv hv
    have e : treeV c = treeV c' := by have := congrArg Prod.fst hz; simpa using this
    rw [hrun, a1, ← e]
  | none =>
    obtain ⟨a1, a2⟩ := h5 (kV (-hd - 1).toNat) (fun x t hx e => by rw [← kV_inj e, hm] at hx; cases hx)
    refine .inr ⟨rfl, fun W hW => ?_⟩
    obtain ⟨v, ps, hrun, hv⟩ := key W hW
    rw [a2] at hv
    obtain ⟨c', rfl, hz⟩ := treeR_inv hv
    have e : treeV (0, none, 0, 0) = treeV c' := by have := congrArg Prod.fst hz; simpa using this
    rw [hrun, a1, ← e]
/-- a variable is bound -/
theorem MapT.put {N : Nat} {p : Nat → Prop} {b : Nat} {M : PM} {w : World} (h : MapT N p b M w) {hd : Int} (hn : hd < 0) (hw : (Lit.int .i64 hd).wf = true) {t : T} {c : Int × Option Addr × Nat × Nat} (hf : M (-hd - 1).toNat = none) (hN : (-hd - 1).toNat < N) (hNm : N ≤ 1000) (ht : TreeP p w (treeV c) t) (hpb : ¬ p b) :
    ∃ w', (Instr.mapUpdate 163 (.map (some b)) (.int .i64 hd) (treeV c)).run Try.prog w = .ok () w' ∧ MapT N p b (bindM M (-hd - 1).toNat t) w' ∧ w.grownBy w' (some b) := by
  obtain ⟨D, n, h1, h2, h3, h4, h5⟩ := h
  obtain ⟨w', hrun, ho, hg⟩ := h1.update law3 law163 (by unfold maxLen; omega) (keyOf_int_mk Try.underlying3 hw) (treeR_mk c)
  have hlt := h1.lt
  have hkeep : ∀ c, p c → c < w.heap.size → w'.heap[c]? = w.heap[c]? := fun k hk hl => hg.block k hl (fun e => by cases e; exact hpb hk)
  have hub : unb N (bindM M (-hd - 1).toNat t) + 1 ≤ unb N M := by
    unfold unb
    rw [← List.countP_eq_length_filter, ← List.countP_eq_length_filter]
    refine countP_lt (fun x _ hx => ?_) ⟨(-hd - 1).toNat, List.mem_range.2 hN, decide_eq_true hf, decide_eq_false (fun h => by unfold bindM at h; rw [if_pos rfl] at h; cases h)⟩
    simp only [decide_eq_true_eq] at hx ⊢
    unfold bindM at hx
    by_cases e : x = (-hd - 1).toNat
    · rw [if_pos e] at hx; cases hx
    · rw [if_neg e] at hx; exact hx
  rw [kV_of hn] at ho
  refine ⟨w', hrun, ⟨_, n + 1, ho, by omega, h3.put _ _, fun x u hx => ?_, fun kl hkl => ?_⟩, hg⟩
  · unfold bindM at hx
    by_cases e : x = (-hd - 1).toNat
    · subst e
      rw [if_pos rfl] at hx; cases hx
      exact ⟨has_put_same h3 (kV_key _) _, _, fun zd => atKey_put_same h3 (kV_key _) _ _, ht.carry hkeep⟩
    · rw [if_neg e] at hx
      obtain ⟨a1, v, a2, a3⟩ := h4 x u hx
      have hne : kV x ≠ kV (-hd - 1).toNat := fun h => e (kV_inj h)
      exact ⟨by rw [has_put_other hne]; exact a1, v, fun zd => by rw [atKey_put_other hne]; exact a2 zd, a3.carry hkeep⟩
  · have hne : kl ≠ kV (-hd - 1).toNat := hkl _ t (by unfold bindM; rw [if_pos rfl])
    obtain ⟨a1, a2⟩ := h5 kl (fun x u hx e => by
      by_cases e2 : x = (-hd - 1).toNat
      · rw [e2] at e; exact hne e
      · exact hkl x u (by unfold bindM; rw [if_neg e2]; exact hx) e)
    exact ⟨by rw [has_put_other hne]; exact a1, fun zd => by rw [atKey_put_other hne]; exact a2 zd⟩
/-- how many are bound: 0 only if none is -/
theorem MapT.len {N : Nat} {p : Nat → Prop} {b : Nat} {M : PM} {w : World} (h : MapT N p b M w) : ∃ n : Nat, (∀ ty, (Builtin.len_ #[163] ty #[.map (some b)]).run Try.prog w = .ok (.int .i64 n) w) ∧ (n = 0 → ∀ x, M x = none) := by
  obtain ⟨D, n, h1, h2, h3, h4, h5⟩ := h
  refine ⟨Maps.size D, fun ty => h1.len law163 ty, fun h0 x => ?_⟩
  cases hm : M x with
  | none => rfl
  | some t =>
    obtain ⟨a1, _⟩ := h4 x t hm
    obtain ⟨es, he⟩ := h3
    subst he
    have : es = [] := by
      simp [Maps.size] at h0
      exact h0
    subst this
    simp [Maps.has] at a1
theorem wf_low {N : Nat} {t : T} (hn : t.head < 0) (hv : VA N t) (hN : N ≤ 1000) : (Lit.int .i64 t.head).wf = true := by
  have h := (hv.leaf hn).2
  unfold vI at h
  exact wf64 (by omega) (by omega)
end Go.Proofs.Ytlhnfdjidjgfgaa
