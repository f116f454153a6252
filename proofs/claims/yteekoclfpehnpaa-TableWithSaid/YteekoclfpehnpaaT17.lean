/-
  tree.Nodes hands back an iterator over the nodes of a tree with their positions.
-/
import Derived.Test.YteekoclfpehnpaaProg
import Derived.Test.YteekoclfpehnpaaBase
import Derived.Test.YteekoclfpehnpaaT16
namespace Go.Proofs.Yteekoclfpehnpaa
open Go.RowKit Go.Shelf
set_option linter.unusedVariables false
set_option maxHeartbeats 400000
attribute [local go_sem] Oper.semAt_some

theorem room_of_wide (k : Nat) : Fence.wide.room k := room_wide k
theorem RoundIn.anyDepth' {m m' : Nat} {P : Program} {l : Nat} {f : FuncId} {tmps : Array Value} {assign body : Code} {w : World} {R : Ending → World → Prop}
    (h : RoundIn Fence.wide m P l f tmps assign body w R) : RoundIn Fence.wide m' P l f tmps assign body w R := ⟨h.1, fun c cs _ => h.2 c cs (room_of_wide _)⟩
theorem YieldAt.anyDepth' {m : Nat} (m' : Nat) {P : Program} {l : Nat} {args : Array Value} {W : World} {R : Ending → World → Prop} (h : YieldAt Fence.wide m P l args W R) : YieldAt Fence.wide m' P l args W R := by
  obtain ⟨fn, tmps, assign, body, hy, hR⟩ := h
  exact ⟨fn, tmps, assign, body, hy, RoundIn.anyDepth' hR⟩

theorem nodes48 (v : Value) (t : T) (w : World) (h : TreeAt w v t) :
    Calls Try.prog 108 #[v] w fun e w' => e = .returned (.func (.func 123) #[] #[.pointer (some ⟨w.heap.size, 0, none⟩)]) ∧ w' = w.alloc (.cells v.cells 44) := by
  obtain ⟨k, sp, rfl⟩ := h.form
  clear h
  go_enter Try.func108, Try.ntmps108
  go_wp2_with fail
  go_ret
  exact ⟨rfl, rfl⟩

/-- the premise on the rounds that uses the position -/
def SeqStopsP (w0 : World) (t0 : T) (m₀ : Nat) (lb : Array Value) (t : T) (w : World) : Prop :=
  ∀ (l : Nat) (J Jx : List (NX w0 t0) → World → Prop) (W : World), Below w.heap.size w W → AbidesFrom W.heap.size J → AbidesFrom W.heap.size Jx →
    (∀ pre x W1, J pre W1 → pre.length < t.size → PlaceAt m₀ W1 x.pl x.at_ → YieldAt Fence.wide 2 Try.prog l x.encs W1 fun e W' =>
      (e = .returned (.bool true) ∧ J (pre ++ [x]) W' ∧ KpN w0.heap.size m₀ W1 W') ∨ (e = .returned (.bool false) ∧ Jx (pre ++ [x]) W')) →
    J [] W →
    CallsIn Fence.wide 3 Try.prog 123 (#[.func (.yield l) #[] #[]] ++ lb) W fun e W' => (∃ v, e = .returned v) ∧ ((∃ xs, xs.map NX.pt = t.preP [] ∧ J xs W') ∨ (∃ pre, pre.map NX.pt <+: t.preP [] ∧ Jx pre W'))

theorem nodes_stopsP (w0 : World) (m₀ Bt : Nat) (t : T) (ao : Option Addr) (sp : Nat) (w : World) (hs : t.size ≤ 90000000) (hd : t.deep ≤ 100000) (hm : w0.heap.size ≤ m₀) (hw0 : Below w0.heap.size w0 w) (hmw : m₀ ≤ w.heap.size)
    (ht : TreeAt w0 (.agg #[.int .i64 t.head, .slice ao t.kids.length (t.kids.length + sp)]) t) (hb : w.heap[Bt]? = some (.cells #[.int .i64 t.head, .slice ao t.kids.length (t.kids.length + sp)] 44 (0, 0))) :
    SeqStopsP w0 t m₀ #[.pointer (some ⟨Bt, 0, none⟩)] t w := by
  intro l J Jx W hW hJ hJx hY h0
  have hwalk := walk59 w0 t m₀ l t.size W.heap.size hs J Jx hJ hm (fun m pre x W1 hj hl hp => YieldAt.anyDepth' m (hY pre x W1 hj hl hp)) t (fun _ h => h) ao sp [] (.slice none 0 0) [] W ht (hw0.trans (hW.mono hw0.size)) (Nat.le_trans hmw hW.size) (PlaceAt.nil _ _) (by simpa using hd) h0 (by simp)
  have HWK := Lib.hid hwalk
  obtain ⟨⟨x0, _⟩, x1, _⟩ := box2 (Below.heapAt hW hb)
  clear hwalk hY h0
  refine callsIn_wide.2 ?_
  go_enter Try.func123, Try.ntmps123
  go_wp2_with fail
  refine HWK.out.mono ?_
  intro e W2 h
  obtain ⟨bb, rfl, h2⟩ := h.asBool
  have H2 := Lib.hid h2
  clear h h2
  go_wp2_with fail
  go_end0
  refine ⟨⟨_, rfl⟩, ?_⟩
  rcases H2.out with ⟨rfl, ⟨ys, h1, h2⟩, h3⟩ | ⟨rfl, q, h1, h2⟩
  · exact .inl ⟨ys, h1, by simpa using h2⟩
  · exact .inr ⟨q, h1, by simpa using h2⟩
theorem nodes_stops (w0 : World) (m₀ Bt : Nat) (t : T) (ao : Option Addr) (sp : Nat) (w : World) (hs : t.size ≤ 90000000) (hd : t.deep ≤ 100000) (hm : w0.heap.size ≤ m₀) (hw0 : Below w0.heap.size w0 w) (hmw : m₀ ≤ w.heap.size)
    (ht : TreeAt w0 (.agg #[.int .i64 t.head, .slice ao t.kids.length (t.kids.length + sp)]) t) (hb : w.heap[Bt]? = some (.cells #[.int .i64 t.head, .slice ao t.kids.length (t.kids.length + sp)] 44 (0, 0))) :
    SeqStopsK Fence.wide 3 Try.prog 123 #[.pointer (some ⟨Bt, 0, none⟩)] NX.encs (KpN w0.heap.size m₀) (fun xs : List (NX w0 t) => xs.map NX.pt = t.preP []) (fun xs => xs.map NX.pt <+: t.preP []) t.size w :=
  fun l J Jx W hW hJ hJx hY h0 => nodes_stopsP w0 m₀ Bt t ao sp w hs hd hm hw0 hmw ht hb l J Jx W hW hJ hJx (fun pre x W1 hj hl _ => hY pre x W1 hj hl) h0

theorem own_block {β : Type} (b : Nat) (o : β → Obj) (hc : ∀ s, (o s).isCells = true) : Own (fun s W => W.heap[b]? = some (o s)) := fun s A B row hs hg hr =>
  (hg.block b (Array.getElem?_eq_some_iff.1 hs).1 (fun e => by obtain ⟨o', ho', hc'⟩ := hr b e.symm; rw [show A.heap[b]? = _ from hs] at ho'; cases ho'; rw [hc] at hc'; cases hc')).trans hs
theorem map_pt_snd {w0 : World} {t0 : T} {xs : List (NX w0 t0)} {t : T} (h : xs.map NX.pt = t.preP []) : xs.map (·.t) = t.pre := by
  rw [← preP_snd t [], ← h, List.map_map]; rfl
theorem map_pt_snd_prefix {w0 : World} {t0 : T} {xs : List (NX w0 t0)} {t : T} (h : xs.map NX.pt <+: t.preP []) : xs.map (·.t) <+: t.pre := by
  rw [← preP_snd t []]
  have : xs.map (·.t) = (xs.map NX.pt).map (·.2) := by rw [List.map_map]; rfl
  rw [this]; exact List.IsPrefix.map _ h
end Go.Proofs.Yteekoclfpehnpaa
