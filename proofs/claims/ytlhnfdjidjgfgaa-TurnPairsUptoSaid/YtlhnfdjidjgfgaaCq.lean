/-
  Plain: derivations of claims, their steps, what a beginning of one gets.
  Walks: claim.Map with any function.
  Walk: pat.Do.
  Blocks that hold cells; what a range over a function leaves of rows of pairs; a position read. No function is named here.
-/
import Derived.Test.YtlhnfdjidjgfgaaProg
import Derived.Test.YtlhnfdjidjgfgaaPb3
import Derived.Test.YtlhnfdjidjgfgaaT25
import Derived.Test.YtlhnfdjidjgfgaaT31
import Derived.Test.YtlhnfdjidjgfgaaPa4
import Derived.RegionTactic
import Derived.Test.YtlhnfdjidjgfgaaE80
import Derived.Test.YtlhnfdjidjgfgaaXd
import Derived.Test.YtlhnfdjidjgfgaaG2
import Derived.Deep.RegionLaw
import Derived.Test.YtlhnfdjidjgfgaaSt3
import Derived.Test.YtlhnfdjidjgfgaaG4
import Derived.Test.YtlhnfdjidjgfgaaR2
import Derived.Test.YtlhnfdjidjgfgaaM2
import Derived.Test.YtlhnfdjidjgfgaaR1
import Derived.Test.YtlhnfdjidjgfgaaNk3
import Derived.Test.YtlhnfdjidjgfgaaPa2
import Derived.Deep.CutBlock
import Derived.Deep.DeepCutAuto
import Derived.Lib.QuietBelow
import Derived.BigQuiet
import Derived.Test.YtlhnfdjidjgfgaaCa
namespace Go.Proofs.Ytlhnfdjidjgfgaa
open Go.RowKit Go.Shelf
set_option linter.unusedVariables false
set_option maxHeartbeats 400000

def gC (l : List (List Fc)) (i : Int) : List Fc := l.getD i.toNat []
/-! a beginning of a derivation -/
end Go.Proofs.Ytlhnfdjidjgfgaa
namespace Go.Proofs.Ytlhnfdjidjgfgaa
open Go.RowKit Go.Shelf
set_option linter.unusedVariables false
set_option maxHeartbeats 400000

theorem St.madeP {P : Program} {n : Nat} {a : Array Value} {w0 w : World} {l : List Fct} (S : St w0 w l) {t : T} {p2 : Nat → Prop} (h : Calls P n a w fun e w' => ∃ u, e = .returned u ∧ TreeP (fun b => p2 b ∨ w.heap.size ≤ b) w' u t ∧ Below w.heap.size w w') :
    Calls P n a w fun e w' => ∃ k sp, e = .returned (.agg #[.int .i64 t.head, .slice k t.kids.length (t.kids.length + sp)]) ∧ w.heap.size ≤ w'.heap.size ∧ Below w.heap.size w w' ∧
      St w0 w' (fsnoc l (.treeP (fun b => p2 b ∨ (w.heap.size ≤ b ∧ b < w'.heap.size)) (.agg #[.int .i64 t.head, .slice k t.kids.length (t.kids.length + sp)]) t)) :=
  h.mono fun e w' ⟨u, h1, h2, h3⟩ => by
    obtain ⟨k, sp, rfl⟩ := h2.at.form
    exact ⟨k, sp, h1, h3.size, h3, (S.step h3).add (.treeP _ _ _) (h2.mono (fun b h hl => by rcases h with h | h; exact .inl h; exact .inr ⟨h, hl⟩))⟩
end Go.Proofs.Ytlhnfdjidjgfgaa
namespace Go.Proofs.Ytlhnfdjidjgfgaa
open Go.RowKit Go.Shelf Go.Maps
set_option linter.unusedVariables false
set_option maxHeartbeats 400000
attribute [local go_sem] Oper.semAt_some

/-- the marks are taken up: all else lies as it lay -/
theorem leaves_marks3 {n B : Nat} {P : Program} {fn : Func} {tmps : Array Value} {R : Ending → World → Prop} : ∀ (ds : List Nat) (w : World), Marks B w ds →
    (∀ w', Below B w w' → (∀ b : Nat, b ∉ ds → w'.heap[b]? = w.heap[b]?) → w'.heap.size = w.heap.size → ∃ v, (results fn tmps).run P w' = .ok v w' ∧ R (.returned v) w') → B ≤ w.heap.size →
    LeavesInM Fence.wide n P fn tmps R (ds.map mark) .returning w
  | [], w, _, H, _ => H w (Below.refl _ _) (fun _ _ => rfl) rfl
  | D :: ds, w, hm, H, hB => by
    have hD := hm.2 D (by simp)
    have hn := List.nodup_cons.1 hm.1
    refine ⟨by simp, .inl ⟨D, w.putObj D (.deferred none), rfl, run_takeDeferred hD.2, ?_⟩⟩
    have hbD : Below B w (w.putObj D (.deferred none)) := (Below.refl B w).grown (grownBy_putObj' w D _) hB (fun k e => by cases e; exact hD.1)
    refine leaves_marks3 ds _ ⟨hn.2, fun b hb => ⟨(hm.2 b (by simp [hb])).1, (World.putObj_heap_other (fun e => hn.1 (by rw [← e]; exact hb))).trans (hm.2 b (by simp [hb])).2⟩⟩ ?_ (by simpa using hB)
    intro w' hb' hk' hs'
    refine H w' (hbD.trans hb') (fun b hb => ?_) (by simpa using hs')
    have hne : b ≠ D := fun e => hb (by simp [e])
    have e1 : (w.putObj D (.deferred none)).heap[b]? = w.heap[b]? := World.putObj_heap_other hne
    exact (hk' b (fun h => hb (by simp [h]))).trans e1
end Go.Proofs.Ytlhnfdjidjgfgaa
namespace Go.Proofs.Ytlhnfdjidjgfgaa
open Go.RowKit Go.Shelf
set_option linter.unusedVariables false

def CellsB (w : World) (b : Nat) : Prop := ∃ cs ty fz, w.heap[b]? = some (Obj.cells cs ty fz)
theorem cellsB_of_cell {w : World} {b off : Nat} {v : Value} (h : w.cell? ⟨b, off, none⟩ = some v) : CellsB w b := by
  unfold World.cell? at h
  cases hb : w.heap[b]? with
  | none => rw [hb] at h; simp at h
  | some o =>
    cases o with
    | cells cs ty fz => exact ⟨cs, ty, fz, hb⟩
    | _ => rw [hb] at h; simp at h
theorem TreeP.cellsB {p : Nat → Prop} {w : World} {v : Value} {t : T} (h : TreeP p w v t) : TreeP (fun b => p b ∧ CellsB w b) w v t := by
  induction h with
  | mk h ks ao sp c0 c1 hn hc ht ih =>
    exact .mk h ks ao sp c0 c1 hn (fun i hi => by obtain ⟨b, off, e, hp, h1, h2⟩ := hc i hi; exact ⟨b, off, e, ⟨hp, cellsB_of_cell h1⟩, h1, h2⟩) ih
theorem pairE_cells {ty : TypeId} {p : Nat → Prop} {w : World} {cs : List Value} {f : T × T} (h : (pairE ty).is p w cs f) : (pairE ty).is (fun b => p b ∧ CellsB w b) w cs f := by
  obtain ⟨k, sp, k2, sp2, e, h1, h2⟩ := h
  exact ⟨k, sp, k2, sp2, e, h1.cellsB, h2.cellsB⟩
theorem row_not_cells {w : World} {row : Option Nat} {b : Nat} {B : Nat} (hc : CellsB w b) (hr : ∀ r, row = some r → B ≤ r ∧ ∃ o : Obj, w.heap[r]? = some o ∧ o.isCells = false) : row ≠ some b := fun e => by
  obtain ⟨_, o, ho, hn⟩ := hr b e
  obtain ⟨cs, ty, fz, h⟩ := hc
  rw [h] at ho
  obtain rfl := Option.some.inj ho
  cases hn
theorem GoodF.treeA {B : Nat} {p : Nat → Prop} {v : Value} {t : T} : GoodF B (.treeP p v t) := fun W W' row hs hg hr => by
  have h : TreeP p W v t := hs
  exact (show TreeP p W' v t from (h.cellsB.carry (fun b hb hlt => hg.block b hlt (fun e => row_not_cells hb.2 hr e.symm))).mono (fun b hb _ => hb.1))
theorem GoodF.ownsP {ty : TypeId} {B B0 : Nat} {p : Nat → Prop} {o : Value} {xs : List (T × T)} : GoodF B (.owns (pairE ty) B0 p o xs) := fun W W' row hs hg hr => by
  obtain ⟨css, hcl, ho, hk⟩ := (show (pairE ty).Own p B0 W o xs from hs)
  refine (show (pairE ty).Own p B0 W' o xs from ⟨css, hcl, ownsRow_carry ho (fun b hb hlt => hg.block b hlt (fun e => ?_)), fun i cs x h1 h2 => (pairE ty).keep (fun b hb hlt => ⟨hg.block b hlt (fun e => row_not_cells hb.2 hr e.symm), hb.1⟩) (pairE_cells (hk i cs x h1 h2))⟩)
  rcases ho.2 with ⟨rfl, _⟩ | ⟨g, cap, cur, rfl, _, hgg, _⟩
  · simp [Value.ownBlock] at hb
  · have hbg : g = b := by simpa [Value.ownBlock] using hb
    subst hbg
    exact row_not_cells ⟨_, _, _, hgg⟩ hr e.symm
theorem own_ne {α : Type} {E : Elt α} {p : Nat → Prop} {B : Nat} {w : World} {o : Value} {xs : List α} (h : E.Own p B w o xs) {b : Nat} {ob : Obj} (hb : w.heap[b]? = some ob) (hT : ∀ cs fz, ob ≠ Obj.cells cs E.ty fz) : o.ownBlock ≠ some b := fun e => by
  obtain ⟨css, hcl, ho, hk⟩ := h
  rcases ho.2 with ⟨rfl, _⟩ | ⟨g, cap, cur, rfl, _, hgg, _⟩
  · simp [Value.ownBlock] at e
  · have hbg : g = b := by simpa [Value.ownBlock] using e
    subst hbg
    rw [hb] at hgg
    exact hT _ _ (Option.some.inj hgg)
theorem kp_keeps {n₀ m₀ B0 : Nat} {A W : World} (hb : Below n₀ A W) (hs : A.heap.size ≤ W.heap.size) (h : ∀ (b : Nat) (o : Obj), A.heap[b]? = some o → (∀ cs ty fz, o = Obj.cells cs ty fz → ty = 3 ∨ ty = 38) → W.heap[b]? = A.heap[b]?) : KpM n₀ m₀ A W ∧ KeepsFrom B0 A W :=
  ⟨⟨hb, fun b cur ty fz _ ht ha => h b _ ha (fun cs ty' fz' e => by
      injection e with _ e2 _
      subst e2
      exact ht.imp id (fun h => h.1))⟩,
    ⟨hs, fun b ob _ ha hn => (h b ob ha (fun cs ty fz e => by rw [e] at hn; cases hn)).trans ha⟩⟩
theorem PlaceAt.grown {m₀ B : Nat} {X Y : World} {row : Option Nat} {v : Value} {l : List Int} (h : PlaceAt m₀ X v l) (hg : X.grownBy Y row) (hr : ∀ r, row = some r → B ≤ r ∧ ∃ o : Obj, X.heap[r]? = some o ∧ o.isCells = false) : PlaceAt m₀ Y v l :=
  ⟨ownsRow_carry h.1 (fun b hb hlt => hg.block b hlt (fun e => by
    rcases h.1.2 with ⟨rfl, _⟩ | ⟨g, cap, cur, rfl, _, hgg, _⟩
    · simp [Value.ownBlock] at hb
    · have hbg : g = b := by simpa [Value.ownBlock] using hb
      subst hbg
      exact row_not_cells ⟨_, _, _, hgg⟩ hr e.symm)), h.2⟩
theorem PlaceAt.cellsAt {m₀ : Nat} {w : World} {v : Value} {l : List Int} (h : PlaceAt m₀ w v l) : ∃ ao cap, v = .slice ao l.length cap ∧ l.length ≤ cap ∧ cap ≤ 9223372036854775807 ∧ CellsAt w ao l.length (fun j => .int .i64 (gI l j)) := by
  rcases h.cells with ⟨rfl, rfl⟩ | ⟨g, cap, rfl, _, _, hc, hm, hu⟩
  · exact ⟨none, 0, rfl, Nat.le_refl _, by omega, fun j hj => by simp at hj⟩
  · refine ⟨_, cap, rfl, hc, hm, fun j hj => ⟨g, 0, rfl, ?_⟩⟩
    have := hu j (.int .i64 (gI l j)) (by rw [List.getElem?_map, List.getElem?_eq_getElem hj]; simp [gI, hj])
    simpa using this
section
variable {α : Type}
/-- 'append(o, x)' in a round of a range over a function -/
theorem wpListIn_app1 {P : Program} {w0 w : World} {l : List Fct} {ope : Oper} {a : Act} {ops : Array Oper} {rest : List Oper} {lr nr : Nat} {Q : Exit → Act → World → Prop} {B : Nat} {p p' q : Nat → Prop} {o : Value} {xs : List α} {x : α} {cs : Array Value}
    (hgd : ope.guard = none) (s y : Operand) (t : TypeId) (hop : ope.op = Op.call { callee := Callee.builtin Builtin.append, args := #[s, y], argTypes := #[t, t] }) (E : Elt α) (S : St w0 w l) (i : Nat)
    (hi : Fct.at l i = Fct.owns E B p o xs) (hnil : xs = [] → o = .slice none 0 0) (hx : E.is q w cs.toList x) {inf : TypeInfo} {z : Value} {size bytes : Nat} (hu : P.underlying t = some (.slice E.ty)) (h1 : P.info? E.ty = some inf) (h2 : inf.zero = some z) (h3 : inf.size = size) (h4 : inf.bytes = bytes) (h5 : z.cells.size = size) (h6 : size = E.n)
    (hv : a.eval s = o) (hy : a.eval y = .slice (some ⟨w.heap.size, 0, none⟩) 1 1) (hlen : xs.length + 1 ≤ maxLen) (hby : (xs.length + 1) * bytes ≤ 140737488355328) (hB0 : B ≤ w.heap.size) (hB : w0.heap.size ≤ B)
    (hoff : ∀ b, o.ownBlock = some b → B ≤ b → b < w.heap.size → offs b i l) (hq : ∀ b, q b → o.ownBlock ≠ some b) (hpq : ∀ b, p b ∨ q b → p' b)
    (h : ∀ gg cap w3, St w0 w3 (fset l i (.owns E B p' (.slice (some ⟨gg, 0, none⟩) (xs.length + 1) cap) (xs ++ [x]))) → w.heap.size ≤ w3.heap.size → gg < w3.heap.size → (o.ownBlock = some gg ∨ gg = w.heap.size + 1) →
      SmallKept E.n (w.alloc (.cells cs E.ty)) w3 → (w.alloc (.cells cs E.ty)).grownBy w3 o.ownBlock → wpListIn (Fence.wide.inRound lr) nr P ops Q rest (a.put ope.dst (.slice (some ⟨gg, 0, none⟩) (xs.length + 1) cap)) w3) :
    wpListIn (Fence.wide.inRound lr) nr P ops Q (ope :: rest) a (w.alloc (.cells cs E.ty)) :=
  wpListIn_plain hgd fun K hK => wp_round (fun c => by rw [hop]; intro e; cases e) (wp_app1 s y t hop E S i hi hnil hx hu h1 h2 h3 h4 h5 h6 hv hy hlen hby hB0 hB hoff hq hpq fun gg cap w3 e1 e2 e3 e4 e5 e6 => hK _ _ (h gg cap w3 e1 e2 e3 e4 e5 e6))
end
theorem pairRow_cells {ty : TypeId} {p : Nat → Prop} {w : World} {ao : Option Addr} {xs : List (T × T)} (h : (pairE ty).Row p w ao xs) : (pairE ty).Row (fun b => p b ∧ CellsB w b) w ao xs := fun i x hi => by
  obtain ⟨b, off, cs, e, hp, hc, he⟩ := h i x hi
  have h2 := pairE_cells he
  have h0 : 0 < cs.length := by have := (pairE ty).len he; rw [this]; exact (pairE ty).pos
  exact ⟨b, off, cs, e, ⟨hp, cellsB_of_cell (hc 0 _ (List.getElem?_eq_getElem h0))⟩, hc, h2⟩
theorem retM_12 {n B : Nat} {P : Program} {fn : Func} {tmps : Array Value} {R : Ending → World → Prop} (ds : List Nat) {w : World} (z p q : Value) (b c : Nat) (T T' : TypeId) (hb : w.heap[b]? = some (.cells #[z] T (0, 0))) (hc : w.heap[c]? = some (.cells #[p, q] T' (0, 0))) (hm : Marks B w ds) (hB : B ≤ w.heap.size)
    (hres : ∀ w' : World, w'.cell? ⟨b, 0, none⟩ = some z → w'.cell? ⟨c, 0, none⟩ = some p → w'.cell? ⟨c, 1, none⟩ = some q → (results fn tmps).run P w' = .ok (.tuple #[z, .agg #[p, q]]) w')
    (hR : ∀ w', Below B w w' → (∀ b : Nat, b ∉ ds → w'.heap[b]? = w.heap[b]?) → w'.heap.size = w.heap.size → R (.returned (.tuple #[z, .agg #[p, q]])) w') :
    bodyPostM Fence.wide n P fn R .ret { tmps := tmps, defers := ds.map mark } w :=
  leaves_marks3 ds w hm (fun w' h1 h2 h3 => by
    have h4 := (h2 c (fun h => by rw [(hm.2 c h).2] at hc; cases hc)).trans hc
    have h5 := (h2 b (fun h => by rw [(hm.2 b h).2] at hb; cases hb)).trans hb
    exact ⟨_, hres w' (box1 h5).1 (box2 h4).1.1 (box2 h4).2.1, hR w' h1 h2 h3⟩) hB
theorem pairRow_past {ty : TypeId} {p : Nat → Prop} {B : Nat} {w w' : World} {ao : Option Addr} {xs : List (T × T)} {ds : List Nat} (h : (pairE ty).Row p w ao xs) (hm : Marks B w ds) (hk : ∀ b : Nat, b ∉ ds → w'.heap[b]? = w.heap[b]?) : (pairE ty).Row p w' ao xs :=
  (pairRow_cells h).keep fun b hb _ => ⟨hk b (fun hd => by obtain ⟨cs, ty, fz, e⟩ := hb.2; rw [(hm.2 b hd).2] at e; cases e), hb.1⟩
theorem good_node {x y : T} (h : (treeF x).1 = 0) (hy : y ∈ x.pre) : (treeF y).1 = 0 := by
  have h1 := treeF_ok.1 h
  obtain ⟨h2, h3, h4⟩ := pre_all hy
  exact treeF_ok.2 ⟨by omega, by omega, fun z hz => h1.2.2 z (h2 z hz)⟩
end Go.Proofs.Ytlhnfdjidjgfgaa
