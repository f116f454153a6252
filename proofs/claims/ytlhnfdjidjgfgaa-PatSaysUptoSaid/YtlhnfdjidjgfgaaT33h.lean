/-
  Small laws on append where the other slice may be nil.
-/
import Derived.Test.YtlhnfdjidjgfgaaProg
import Derived.Test.YtlhnfdjidjgfgaaBase
import Derived.Test.YtlhnfdjidjgfgaaXb
import Derived.Laws.AppendOwnNone
namespace Go.Proofs.Ytlhnfdjidjgfgaa
open Go.RowKit Go.Shelf
set_option linter.unusedVariables false
set_option maxHeartbeats 400000

/-- append to a row of the call's own, the other slice nil or not -/
theorem wpList_append_own_any {P : Program} {w : World} {ops : Array Oper} {rest : List Oper} {o : Oper} {a : Act} {Q : Exit → Act → World → Prop} (hgd : o.guard = none) (s x : Operand) (t : TypeId)
    (ho : o.op = .call { callee := .builtin .append, args := #[s, x], argTypes := #[t, t] })
    (base : Nat) (e : TypeId) (i : TypeInfo) (z : Value) (size bytes : Nat) (ht : P.underlying t = some (.slice e)) (hi : P.info? e = some i) (hz : i.zero = some z)
    (hsize : i.size = size) (hby : i.bytes = bytes) (hzs : z.cells.size = size) (hsz : 0 < size)
    (v : Value) (n : Nat) (xs : List Value) (hs : a.eval s = v) (hown : w.ownsRow base e size v n xs)
    (xo : Option Addr) (m c : Nat) (news : List Value) (hx : a.eval x = .slice xo m c) (hnone : xo = none → m = 0 ∧ c = 0) (hl : news.length = m * size) (hnews : ∀ ad, xo = some ad → ∀ j u, news[j]? = some u → w.cell? (ad.add j) = some u) (h1 : ∀ u ∈ news, u.oneCell' = true)
    (h63 : n + m ≤ maxLen) (hbytes : (n + m) * bytes ≤ 140737488355328) (hbase : base ≤ w.heap.size)
    (h : ∀ v' w', w'.ownsRow base e size v' (n + m) (xs ++ news) → w.grownBy w' v.ownBlock → wpList P ops Q rest (a.put o.dst v') w') : wpList P ops Q (o :: rest) a w := by
  cases xo with
  | some ad => exact wpList_append_own w hgd s x t ho base e i z size bytes ht hi hz hsize hby hzs hsz v n xs hs hown ad m c news hx hl (hnews ad rfl) h1 h63 hbytes hbase fun v' w' h2 h3 _ => h v' w' h2 h3
  | none =>
    obtain ⟨rfl, rfl⟩ := hnone rfl
    obtain rfl : news = [] := List.eq_nil_of_length_eq_zero (by simpa using hl)
    exact wpList_append_own_none hgd s x t ho base e i size ht hi v n xs hs hown hx (h v w (by simpa using hown) (World.grownBy.refl _ _))
theorem wp_append_own_any {P : Program} {w : World} {o : Oper} {a : Act} {K : Act → World → Prop} {Q : Exit → Act → World → Prop} (s x : Operand) (t : TypeId)
    (ho : o.op = .call { callee := .builtin .append, args := #[s, x], argTypes := #[t, t] })
    (base : Nat) (e : TypeId) (i : TypeInfo) (z : Value) (size bytes : Nat) (ht : P.underlying t = some (.slice e)) (hi : P.info? e = some i) (hz : i.zero = some z)
    (hsize : i.size = size) (hby : i.bytes = bytes) (hzs : z.cells.size = size) (hsz : 0 < size)
    (v : Value) (n : Nat) (xs : List Value) (hs : a.eval s = v) (hown : w.ownsRow base e size v n xs)
    (xo : Option Addr) (m c : Nat) (news : List Value) (hx : a.eval x = .slice xo m c) (hnone : xo = none → m = 0 ∧ c = 0) (hl : news.length = m * size) (hnews : ∀ ad, xo = some ad → ∀ j u, news[j]? = some u → w.cell? (ad.add j) = some u) (h1 : ∀ u ∈ news, u.oneCell' = true)
    (h63 : n + m ≤ maxLen) (hbytes : (n + m) * bytes ≤ 140737488355328) (hbase : base ≤ w.heap.size)
    (h : ∀ v' w', w'.ownsRow base e size v' (n + m) (xs ++ news) → w.grownBy w' v.ownBlock → K (a.put o.dst v') w') : o.wp P a w K Q := by
  cases xo with
  | some ad => exact wp_append_own w s x t ho base e i z size bytes ht hi hz hsize hby hzs hsz v n xs hs hown ad m c news hx hl (hnews ad rfl) h1 h63 hbytes hbase fun v' w' h2 h3 _ => h v' w' h2 h3
  | none =>
    obtain ⟨rfl, rfl⟩ := hnone rfl
    obtain rfl : news = [] := List.eq_nil_of_length_eq_zero (by simpa using hl)
    have hrun := run_append_owned_none (P := P) (w := w) base t o.type e i size ht hi v n xs hown
    unfold Oper.wp
    simp [execOp, ho, resolve, invoke, builtin, hs, hx, hrun, Result.andThen]
    exact h v w (by simpa using hown) (World.grownBy.refl _ _)
theorem CellsAt.news {w : World} {ao : Option Addr} {l : List Int} (h : CellsAt w ao l.length (fun j => .int .i64 (gI l j))) : ∀ ad, ao = some ad → ∀ j u, (l.map (Value.int .i64))[j]? = some u → w.cell? (ad.add j) = some u := fun ad he j u hu => by
  have hj : j < l.length := by
    have := (List.getElem?_eq_some_iff.1 hu).1; simpa using this
  obtain ⟨b, off, e, hc⟩ := h j hj
  rw [he] at e
  obtain rfl := Option.some.inj e
  rw [Addr.add_lit, hc]
  rw [List.getElem?_map, List.getElem?_eq_getElem hj] at hu
  simp only [Option.map_some, Option.some.injEq] at hu
  rw [← hu]
  show some (Value.int .i64 (gI l j)) = some (Value.int .i64 l[j])
  rw [gI_get hj]
theorem ints_one (l : List Int) : ∀ u ∈ l.map (Value.int .i64), u.oneCell' = true := fun u hu => by
  simp at hu; obtain ⟨x, _, rfl⟩ := hu; rfl

structure PlaceR (w8 : World) (N b9 : Nat) (tv bv mv : Value) (pl ml : List Int) (X : T) (xc xa : Int) (c0 c1 c2 c3 c4 c5 c6 c7 c8 c9 c10 : Bool) (s94 s95 s96 s97 s98 s93 s99 s100 s17 : Value) (W : World) : Prop where
  bel : Below b9 w8 W
  ob : ∀ q, bv.ownBlock = some q → N ≤ q ∧ q < W.heap.size
  l0 : c0 = true → s94 = tv
  l1 : c1 = true → s95 = bv
  l2 : c2 = true → s96 = mv
  own : c3 = false → W.ownsRow N 3 1 bv pl.length (pl.map (Value.int .i64))
  l3 : c3 = true → c4 = false → IntsAt W s97 (pl ++ ml)
  l4 : c4 = true → ∃ xk xsp, s98 = .tuple #[.agg #[.int .i64 X.head, .slice xk X.kids.length (X.kids.length + xsp)], .agg #[.int .i64 xc, .int .i64 xa]] ∧ (c6 = true → s99 = .agg #[.int .i64 X.head, .slice xk X.kids.length (X.kids.length + xsp)]) ∧ TreeP (fun b => N ≤ b ∧ s17 ≠ .pointer (some ⟨b, 0, none⟩)) W (.agg #[.int .i64 X.head, .slice xk X.kids.length (X.kids.length + xsp)]) X
  l5 : c5 = true → s93 = s98
  l7 : c7 = true → s100 = .agg #[.int .i64 xc, .int .i64 xa]
  k8 : c8 = false → s17 = undef
  l8 : c8 = true → ∃ bx p q, s17 = .pointer (some ⟨bx, 0, none⟩) ∧ N ≤ bx ∧ bv.ownBlock ≠ some bx ∧ W.heap[bx]? = some (.cells #[p, q] 41 (0, 0)) ∧ (c9 = true → s99 = .agg #[p, q])
  l10 : ∃ p q, W.heap[b9]? = some (.cells #[.int .i64 p, .int .i64 q] 24 (0, 0)) ∧ (c10 = true → p = xc ∧ q = xa)
  k98 : c9 = true → c8 = true
  k96 : c9 = true → c6 = true
  k54 : c5 = true → c4 = true
  k65 : c6 = true → c5 = true
  k43 : c4 = true → c3 = true

end Go.Proofs.Ytlhnfdjidjgfgaa
