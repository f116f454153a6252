/-
  Walk: the builder's node.
-/
import Derived.Test.YtacaakcpkgipfaaProg
import Derived.Test.YtacaakcpkgipfaaTd8
import Derived.Test.YtacaakcpkgipfaaG7
import Derived.RegionTactic
import Derived.BigQuiet
import Derived.Deep.DeepCutAuto
import Derived.Deep.CutBlock
namespace Go.Proofs.Ytacaakcpkgipfaa
open Go.RowKit Go.Shelf Go.Maps
set_option linter.unusedVariables false
set_option linter.unusedSimpArgs false
set_option maxHeartbeats 400000

/-- all but the builder's blocks lies as it lay -/
def keepB (bk : Nat) (o : Value) (w w' : World) : Prop := ∀ b, b < w.heap.size → b ≠ bk → b ≠ bk + 1 → b ≠ bk + 2 → o.ownBlock ≠ some b → w'.heap[b]? = w.heap[b]?
def bFacts (bk : Nat) (cs : List Ch) (o : Value) (nk ns : Nat) (fk fs : Lit → Option Int) : List Fct :=
  [.box (bk + 2) #[o, .map (some bk), .map (some (bk + 1))] 86, .owns chE (bk + 3) (fun _ => False) o cs, .fmap 72 3 bk nk fk, .fmap 9 3 (bk + 1) ns fs]
/-- how the builder stands: what the call has done to it -/
structure BAt (w0 : World) (bk N : Nat) (o : Value) (nk ns : Nat) (s : Bs) (w w' : World) (o' : Value) (nk' ns' : Nat) (fk' fs' : Lit → Option Int) : Prop where
  st : St w0 w' (bFacts bk s.cs o' nk' ns' fk' fs')
  ki : KInv fk' s.cs
  ei : EInv fs' s.seen
  nk : nk' ≤ nk + N
  ns : ns' ≤ ns + N
  keep : keepB bk o w w'
  size : w.heap.size ≤ w'.heap.size
  own : ∀ b, o'.ownBlock = some b → o.ownBlock = some b ∨ w.heap.size ≤ b
def NodeP (w0 : World) (bk N : Nat) (o : Value) (nk ns : Nat) (r : Nat × Bs) (w : World) (e : Ending) (w' : World) : Prop :=
  ∃ o' nk' ns' fk' fs', e = .returned (.int .i64 r.1) ∧ BAt w0 bk N o nk ns r.2 w w' o' nk' ns' fk' fs'
theorem keepB.refl (bk : Nat) (o : Value) (w : World) : keepB bk o w w := fun _ _ _ _ _ _ => rfl
theorem keepB.trans {bk : Nat} {o o1 : Value} {w w1 w2 : World} (h : keepB bk o w w1) (h2 : keepB bk o1 w1 w2) (hs : w.heap.size ≤ w1.heap.size) (ho : ∀ b, o1.ownBlock = some b → o.ownBlock = some b ∨ w.heap.size ≤ b) : keepB bk o w w2 := fun b hb h3 h4 h5 h6 =>
  (h2 b (by omega) h3 h4 h5 (fun e => by rcases ho b e with h7 | h7; exact h6 h7; omega)).trans (h b hb h3 h4 h5 h6)
theorem BAt.trans {w0 : World} {bk N M : Nat} {o o1 o2 : Value} {nk ns nk1 ns1 nk2 ns2 : Nat} {s1 s2 : Bs} {w w1 w2 : World} {fk1 fs1 fk2 fs2 : Lit → Option Int} (h : BAt w0 bk N o nk ns s1 w w1 o1 nk1 ns1 fk1 fs1) (h2 : BAt w0 bk M o1 nk1 ns1 s2 w1 w2 o2 nk2 ns2 fk2 fs2) :
    BAt w0 bk (N + M) o nk ns s2 w w2 o2 nk2 ns2 fk2 fs2 :=
  ⟨h2.st, h2.ki, h2.ei, by have := h.nk; have := h2.nk; omega, by have := h.ns; have := h2.ns; omega, h.keep.trans h2.keep h.size h.own, by have := h.size; have := h2.size; omega, fun b e => by
    rcases h2.own b e with h3 | h3
    · exact h.own b h3
    · have := h.size; exact .inr (by omega)⟩
theorem BAt.start {w0 : World} {bk : Nat} {o : Value} {nk ns : Nat} {s : Bs} {w w' : World} {fk fs : Lit → Option Int} (h : St w0 w' (bFacts bk s.cs o nk ns fk fs)) (hk : KInv fk s.cs) (he : EInv fs s.seen) (hb : Below w.heap.size w w') : BAt w0 bk 0 o nk ns s w w' o nk ns fk fs :=
  ⟨h, hk, he, by omega, by omega, fun b h1 _ _ _ _ => hb.block b h1, hb.size, fun b e => .inl e⟩
/-- a box of the call's own -/
def boxAt (bk : Nat) (o : Value) (bc : Nat) (v : Value) (W : World) : Prop := W.heap[bc]? = some (.cells v.cells 72 (0, 0)) ∧ bk + 3 ≤ bc ∧ o.ownBlock ≠ some bc
theorem BAt.step {w0 : World} {bk N : Nat} {o o1 : Value} {nk ns nk1 ns1 : Nat} {s1 : Bs} {w w1 w2 : World} {fk1 fs1 : Lit → Option Int} (h : BAt w0 bk N o nk ns s1 w w1 o1 nk1 ns1 fk1 fs1) (hb : Below w1.heap.size w1 w2) : BAt w0 bk N o nk ns s1 w w2 o1 nk1 ns1 fk1 fs1 :=
  h.trans (BAt.start (h.st.step hb) h.ki h.ei hb)
theorem BAt.lt {w0 : World} {bk N : Nat} {o o1 : Value} {nk ns nk1 ns1 : Nat} {s1 : Bs} {w w1 : World} {fk1 fs1 : Lit → Option Int} (h : BAt w0 bk N o nk ns s1 w w1 o1 nk1 ns1 fk1 fs1) : bk + 2 < w1.heap.size := h.st.lt 0
theorem BAt.off {w0 : World} {bk N : Nat} {o o1 : Value} {nk ns nk1 ns1 : Nat} {s1 : Bs} {w w1 : World} {fk1 fs1 : Lit → Option Int} (h : BAt w0 bk N o nk ns s1 w w1 o1 nk1 ns1 fk1 fs1) : ∀ b, o1.ownBlock = some b → bk + 3 ≤ b ∧ b < w1.heap.size := h.st.ownlt chE 1 rfl
theorem boxAt.over {w0 : World} {bk N : Nat} {o o1 : Value} {nk ns nk1 ns1 : Nat} {s1 : Bs} {w w1 : World} {fk1 fs1 : Lit → Option Int} {bc : Nat} {v : Value} (hb : boxAt bk o bc v w) (h : BAt w0 bk N o nk ns s1 w w1 o1 nk1 ns1 fk1 fs1) : boxAt bk o1 bc v w1 := by
  obtain ⟨h1, h2, h3⟩ := hb
  have hlt := heap_lt h1
  refine ⟨(h.keep bc hlt (by omega) (by omega) (by omega) h3).trans h1, h2, fun e => ?_⟩
  rcases h.own bc e with h4 | h4
  · exact h3 h4
  · omega
theorem boxAt.made {w0 : World} {bk N : Nat} {o o1 : Value} {nk ns nk1 ns1 : Nat} {s1 : Bs} {w w1 : World} {fk1 fs1 : Lit → Option Int} (h : BAt w0 bk N o nk ns s1 w w1 o1 nk1 ns1 fk1 fs1) (v : Value) : boxAt bk o1 w1.heap.size v (w1.alloc (.cells v.cells 72)) :=
  ⟨heap_ofAlloc w1 _, by have := h.lt; omega, fun e => by have := (h.off _ e).2; omega⟩
/-- the box is written -/
theorem BAt.write {w0 : World} {bk N : Nat} {o o1 : Value} {nk ns nk1 ns1 : Nat} {s1 : Bs} {w w1 : World} {fk1 fs1 : Lit → Option Int} (h : BAt w0 bk N o nk ns s1 w w1 o1 nk1 ns1 fk1 fs1) {bc : Nat} {v0 : Value} (hb : boxAt bk o1 bc v0 w1) (hw : w.heap.size ≤ bc) (h0 : w0.heap.size ≤ bk) (i : Nat) (u : Value) : BAt w0 bk N o nk ns s1 w (w1.setCell ⟨bc, i, none⟩ u) o1 nk1 ns1 fk1 fs1 := by
  obtain ⟨h1, h2, h3⟩ := hb
  refine ⟨h.st.carry (h.st.bel.setCell (p := ⟨bc, i, none⟩) (by show w0.heap.size ≤ bc; omega) u) (fun k b hf _ => Below.heap_setCell _ _ _ _ (fun e => ?_)), h.ki, h.ei, h.nk, h.ns, fun b hb1 hb2 hb3 hb4 hb5 => (Below.heap_setCell _ _ _ _ (by show b ≠ bc; omega)).trans (h.keep b hb1 hb2 hb3 hb4 hb5), by simpa using h.size, h.own⟩
  have e2 : b = bc := e
  subst e2
  match k, hf with
  | 0, hf => have : b = bk + 2 := hf; omega
  | 1, hf => rcases hf with hf | hf; exact h3 hf; exact hf
  | 2, hf => have : b = bk := hf; omega
  | 3, hf => have : b = bk + 1 := hf; omega
  | k + 4, hf => exact hf
theorem boxAt.write {bk : Nat} {o : Value} {bc : Nat} {x y z : Value} {W : World} (hb : boxAt bk o bc (.agg #[x, y, z]) W) (a b c : Value) : boxAt bk o bc (.agg #[a, b, c]) (((W.setCell ⟨bc, 0, none⟩ a).setCell ⟨bc, 1, none⟩ b).setCell ⟨bc, 2, none⟩ c) := by
  obtain ⟨h1, h2, h3⟩ := hb
  refine ⟨?_, h2, h3⟩
  simp only [Value.cells] at h1 ⊢
  simp [World.setCell, Array.getElem?_modify, h1]
theorem boxAt.write1 {bk : Nat} {o : Value} {bc : Nat} {v : Value} {W : World} (hb : boxAt bk o bc v W) (i : Nat) (a : Value) : boxAt bk o bc (.agg (v.cells.setIfInBounds i a)) (W.setCell ⟨bc, i, none⟩ a) := by
  obtain ⟨h1, h2, h3⟩ := hb
  refine ⟨?_, h2, h3⟩
  simp [World.setCell, Array.getElem?_modify, h1, Value.cells]
theorem boxAt.three {bk : Nat} {o : Value} {bc : Nat} {x y z : Value} {W : World} (hb : boxAt bk o bc (.agg #[x, y, z]) W) : (W.cell? ⟨bc, 0, none⟩ = some x ∧ W.frozen? ⟨bc, 0, none⟩ = false) ∧ (W.cell? ⟨bc, 1, none⟩ = some y ∧ W.frozen? ⟨bc, 1, none⟩ = false) ∧ (W.cell? ⟨bc, 2, none⟩ = some z ∧ W.frozen? ⟨bc, 2, none⟩ = false) ∧ bc < W.heap.size := by
  obtain ⟨h1, h2, h3⟩ := hb
  simp only [Value.cells] at h1
  refine ⟨?_, ?_, ?_, heap_lt h1⟩ <;> simp [World.cell?, World.frozen?, h1]
def MidP (w0 : World) (bk N : Nat) (o : Value) (nk ns : Nat) (c : Ch) (s : Bs) (w : World) (p : Value) (W : World) : Prop :=
  ∃ bc o2 nk2 ns2 fk2 fs2, p = .pointer (some ⟨bc, 0, none⟩) ∧ BAt w0 bk N o nk ns s w W o2 nk2 ns2 fk2 fs2 ∧ boxAt bk o2 bc (valC c) W ∧ w.heap.size ≤ bc
def Fct.keepB (bk : Nat) (o : Value) (w : World) : Fct :=
  ⟨fun b => b < w.heap.size ∧ b ≠ bk ∧ b ≠ bk + 1 ∧ b ≠ bk + 2 ∧ o.ownBlock ≠ some b, fun W => Ytacaakcpkgipfaa.keepB bk o w W, fun W W' h ht b h1 h2 h3 h4 h5 => (h b ⟨h1, h2, h3, h4, h5⟩ (by
    have e := ht b h1 h2 h3 h4 h5
    rw [Array.getElem?_eq_getElem h1] at e
    exact (Array.getElem?_eq_some_iff.1 e).1)).trans (ht b h1 h2 h3 h4 h5)⟩
theorem St.keepB {w0 W : World} {l : List Fct} (S : St w0 W l) (i : Nat) {bk : Nat} {o : Value} {w : World} (h : Fct.at l i = Fct.keepB bk o w := by rfl) : Ytacaakcpkgipfaa.keepB bk o w W := by
  have := S.2 i
  rw [h] at this; exact this
def MidQ (w0 : World) (bk N : Nat) (o : Value) (nk ns : Nat) (r : Nat × Bs) (seen : List (List Nat × Nat)) (w : World) (u : Value) (W : World) : Prop :=
  ∃ o3 nk3 ns3 fk3 fs3, u = .int .i64 r.1 ∧ BAt w0 bk N o nk ns ⟨r.2.cs, seen⟩ w W o3 nk3 ns3 fk3 fs3 ∧ ns3 + 1 ≤ ns + N
theorem Elt.Row.take {α : Type} {E : Elt α} {p : Nat → Prop} {w : World} {ao : Option Addr} {xs : List α} (h : E.Row p w ao xs) (k : Nat) : E.Row p w ao (xs.take k) := fun i x hi => h i x (by
  have hik : i < k := by have := (List.getElem?_eq_some_iff.1 hi).1; simp at this; omega
  rw [List.getElem?_take, if_pos hik] at hi; exact hi)
theorem row_dropU {p : Nat → Prop} {w : World} {b off : Nat} {xs : List Nat} (h : byteE.Row p w (some ⟨b, off, none⟩) xs) (k : Nat) : byteE.Row p w (some ⟨b, off + k, none⟩) (xs.drop k) := fun i x hi => by
  rw [List.getElem?_drop] at hi
  obtain ⟨b2, off2, cs, e, hp, hc, he⟩ := h (k + i) x hi
  simp only [Option.some.injEq, Addr.mk.injEq, and_true] at e
  obtain ⟨rfl, rfl⟩ := e
  exact ⟨b, off + k, cs, rfl, hp, fun j u hu => by have := hc j u hu; have e2 : off + (k + i) * byteE.n + j = off + k + i * byteE.n + j := by show off + (k + i) * 1 + j = off + k + i * 1 + j; omega
                                                   rw [e2] at this; exact this, he⟩

set_option maxRecDepth 100000 in
set_option maxHeartbeats 8000000 in
theorem node35 (w0 : World) (bk : Nat) (q : Nat → Prop) (hbk : w0.heap.size ≤ bk) :
    ∀ (h : Nat) (t : List Nat) (v : Nat) (s : Bs) (o : Value) (nk ns : Nat) (fk fs : Lit → Option Int) (ao : Option Addr) (cp : Nat) (w : World),
      SInv 6 s → t.length = 2 ^ h → (∀ x ∈ t, x < 2) → 1 ≤ v → v + h = 7 → t.length ≤ cp → byteE.Row q w0 ao t → s.cs.length + 2 ^ h ≤ 200 → nk + 2 ^ h ≤ 200 → ns + 2 ^ h ≤ 200 →
      St w0 w (bFacts bk s.cs o nk ns fk fs) → KInv fk s.cs → EInv fs s.seen →
      Calls Try.prog 35 #[.pointer (some ⟨bk + 2, 0, none⟩), .slice ao t.length cp, .int .i64 v] w (NodeP w0 bk (2 ^ h - 1) o nk ns (nodeB h t v s) w) := by
  intro h
  induction h with
  | zero =>
    intro t v s o nk ns fk fs ao cp w hs ht h01 hv1 hv hcp hrow hcl hnk hns S hki hei
    obtain ⟨x, rfl⟩ : ∃ x, t = [x] := by
      cases t with
      | nil => simp at ht
      | cons x r => cases r with
        | nil => exact ⟨x, rfl⟩
        | cons y r => simp at ht
    obtain ⟨b, off, rfl, _, c0⟩ := (hrow.kept S.bel).byte (i := 0) (by simp)
    have hx := h01 x (by simp)
    have HB := Lib.hid (BAt.start S hki hei (Below.refl _ w))
    simp only [List.getElem_cons_zero, byV, Nat.add_zero] at c0
    have hxw : IntKind.i64.wrap (x : Int) = (x : Int) := IntWalk.i64_in _ (by omega)
    clear hs hrow hki hei S h01
    go_enter Try.func35, Try.ntmps35
    go_wp2_with fail
    go_ret
    have h2 := HB.out
    exact ⟨o, nk, ns, fk, fs, rfl, ⟨h2.st, h2.ki, h2.ei, by have := h2.nk; omega, by have := h2.ns; omega, h2.keep, h2.size, h2.own⟩⟩
  | succ h ih =>
    intro t v s o nk ns fk fs ao cp w hs ht h01 hv1 hv hcp hrow hcl hnk hns S hki hei
    have hpw : 2 ^ (h + 1) = 2 ^ h + 2 ^ h := by rw [Nat.pow_succ]; omega
    have hp1 : 1 ≤ 2 ^ h := Nat.one_le_two_pow
    have hpw0 := hpw
    obtain ⟨m, hm⟩ : ∃ m, m = 2 ^ h := ⟨_, rfl⟩
    rw [hpw, ← hm] at ht hcl hnk hns ⊢
    rw [← hm] at hp1
    have NOK := Lib.hid (nodeB_ok 6 (h + 1) t v s hs (by rw [ht, hpw, ← hm]) h01 hv1 (by omega))
    obtain ⟨n, hn⟩ : ∃ n, n = t.length := ⟨_, rfl⟩
    have HROW := Lib.hid hrow
    have HIH := Lib.hid ih
    have HSI := Lib.hid hs
    have H01 := Lib.hid h01
    have HT := Lib.hid (And.intro hn ht)
    have HN2 := Lib.hid (show n = m + m by omega)
    have hnn2 : 2 ≤ n := by omega
    have hnn3 : n ≤ 400 := by omega
    have HM := Lib.hid hm
    have hml : m ≤ 200 := by omega
    rw [← hn] at hcp ⊢
    have HKI := Lib.hid hki
    have HEI := Lib.hid hei
    have SD := Lib.hid S.drew
    have hnz : ((n : Int) == 1) = false := by simp; omega
    have hmn : m < n := by omega
    have hcv := conv_S q ao t cp w.drew (hrow.kept S.bel.drew) (by omega)
    rw [← hn] at hcv
    obtain ⟨fl, hfl⟩ : ∃ z, z = fs (keyS t) := ⟨_, rfl⟩
    have hlk := (S.drew.fmap 3 (k := 9) (e := 3)).look (t := 84) keyedS Try.underlying84 Try.underlying3 (by rfl) (keyOf_S (t := t) (by omega))
    rw [← hfl] at hlk
    have y0 := (S.drew.cell 0 0 rfl).1
    have y1 := (S.drew.cell 0 1 rfl).1
    have y2 := (S.drew.cell 0 2 rfl).1
    have HFL := Lib.hid (show fl = (s.seen.lookup t).map (fun i : Nat => (i : Int)) by rw [hfl, hei t h01])
    clear hs hrow ih h01 ht hm hki hei S hn hpw hfl
    go_enter Try.func35, Try.ntmps35
    go_upto_region 3 with fail
    refine wpT_region [] (fun W => W = w.drew) (by kernel_rfl) ?_
    have HS : w.drew = w.drew := rfl
    try simp only [Act.put, List.setIfInBounds_toArray, List.set_cons_zero, List.set_cons_succ]
    refine wpT.take (i := 0) (by kernel_rfl) (by kernel_rfl) (by kernel_rfl) (by kernel_rfl) (by kernel_rfl) (fun _ => HS) ?_
    intro oi ho
    simp only [List.getElem?_toArray, List.getElem?_cons_succ, List.getElem?_cons_zero, Option.some.injEq] at ho
    subst ho
    refine ⟨?_, Or.inl ⟨by rfl, ?_⟩, fun _ _ _ h => h, ?_⟩
    rotate_left 1
    · intro W hW
      try (subst hW)
      try dsimp only at hW
      go_simp
      try with_reducible rfl
    try simp only [Act.put, List.setIfInBounds_toArray, List.set_cons_zero, List.set_cons_succ]
    refine wpT.take (i := 1) (by kernel_rfl) (by kernel_rfl) (by kernel_rfl) (by kernel_rfl) (by kernel_rfl) (fun _ => HS) ?_
    intro oi ho
    simp only [List.getElem?_toArray, List.getElem?_cons_succ, List.getElem?_cons_zero, Option.some.injEq] at ho
    subst ho
    refine ⟨?_, Or.inl ⟨by rfl, ?_⟩, fun _ _ _ h => h, ?_⟩
    rotate_left 1
    · intro W hW
      try (subst hW)
      try dsimp only at hW
      go_simp
      try with_reducible rfl
    try simp only [Act.put, List.setIfInBounds_toArray, List.set_cons_zero, List.set_cons_succ]
    refine wpT.take (i := 2) (by kernel_rfl) (by kernel_rfl) (by kernel_rfl) (by kernel_rfl) (by kernel_rfl) (fun _ => HS) ?_
    intro oi ho
    simp only [List.getElem?_toArray, List.getElem?_cons_succ, List.getElem?_cons_zero, Option.some.injEq] at ho
    subst ho
    refine ⟨?_, Or.inl ⟨by rfl, ?_⟩, fun _ _ _ h => h, ?_⟩
    rotate_left 1
    · intro W hW
      try (subst hW)
      try dsimp only at hW
      go_simp
      try with_reducible rfl
    try simp only [Act.put, List.setIfInBounds_toArray, List.set_cons_zero, List.set_cons_succ]
    refine wpT.take (i := 3) (by kernel_rfl) (by kernel_rfl) (by kernel_rfl) (by kernel_rfl) (by kernel_rfl) (fun _ => HS) ?_
    intro oi ho
    simp only [List.getElem?_toArray, List.getElem?_cons_succ, List.getElem?_cons_zero, Option.some.injEq] at ho
    subst ho
    refine ⟨?_, Or.inl ⟨by rfl, ?_⟩, fun _ _ _ h => h, ?_⟩
    rotate_left 1
    · intro W hW
      try (subst hW)
      try dsimp only at hW
      go_simp
      try with_reducible rfl
    try simp only [Act.put, List.setIfInBounds_toArray, List.set_cons_zero, List.set_cons_succ]
    refine wpT.take (i := 4) (by kernel_rfl) (by kernel_rfl) (by kernel_rfl) (by kernel_rfl) (by kernel_rfl) (fun _ => HS) ?_
    intro oi ho
    simp only [List.getElem?_toArray, List.getElem?_cons_succ, List.getElem?_cons_zero, Option.some.injEq] at ho
    subst ho
    refine ⟨?_, Or.inl ⟨by rfl, ?_⟩, fun _ _ _ h => h, ?_⟩
    rotate_left 1
    · intro W hW
      try (subst hW)
      try dsimp only at hW
      go_simp
      try with_reducible rfl
    try simp only [Act.put, List.setIfInBounds_toArray, List.set_cons_zero, List.set_cons_succ]
    refine wpT.take (i := 5) (by kernel_rfl) (by kernel_rfl) (by kernel_rfl) (by kernel_rfl) (by kernel_rfl) (fun _ => HS) ?_
    intro oi ho
    simp only [List.getElem?_toArray, List.getElem?_cons_succ, List.getElem?_cons_zero, Option.some.injEq] at ho
    subst ho
    refine ⟨?_, Or.inl ⟨by rfl, ?_⟩, fun _ _ _ h => h, ?_⟩
    rotate_left 1
    · intro W hW
      try (subst hW)
      try dsimp only at hW
      go_simp
      try with_reducible rfl
    try simp only [Act.put, List.setIfInBounds_toArray, List.set_cons_zero, List.set_cons_succ]
    refine wpT.take (i := 6) (by kernel_rfl) (by kernel_rfl) (by kernel_rfl) (by kernel_rfl) (by kernel_rfl) (fun _ => HS) ?_
    intro oi ho
    simp only [List.getElem?_toArray, List.getElem?_cons_succ, List.getElem?_cons_zero, Option.some.injEq] at ho
    subst ho
    refine ⟨?_, Or.inl ⟨by rfl, ?_⟩, fun _ _ _ h => h, ?_⟩
    rotate_left 1
    · intro W hW
      try (subst hW)
      try dsimp only at hW
      go_simp
      try with_reducible rfl
    try simp only [Act.put, List.setIfInBounds_toArray, List.set_cons_zero, List.set_cons_succ]
    refine wpT.take (i := 7) (by kernel_rfl) (by kernel_rfl) (by kernel_rfl) (by kernel_rfl) (by kernel_rfl) (fun _ => HS) ?_
    intro oi ho
    simp only [List.getElem?_toArray, List.getElem?_cons_succ, List.getElem?_cons_zero, Option.some.injEq] at ho
    subst ho
    refine ⟨?_, Or.inl ⟨by rfl, ?_⟩, fun _ _ _ h => h, ?_⟩
    rotate_left 1
    · intro W hW
      try (subst hW)
      try dsimp only at hW
      go_simp
      try with_reducible rfl
    try simp only [Act.put, List.setIfInBounds_toArray, List.set_cons_zero, List.set_cons_succ]
    refine wpT.take (i := 8) (by kernel_rfl) (by kernel_rfl) (by kernel_rfl) (by kernel_rfl) (by kernel_rfl) (fun _ => HS) ?_
    intro oi ho
    simp only [List.getElem?_toArray, List.getElem?_cons_succ, List.getElem?_cons_zero, Option.some.injEq] at ho
    subst ho
    refine ⟨?_, Or.inl ⟨by rfl, ?_⟩, fun _ _ _ h => h, ?_⟩
    rotate_left 1
    · intro W hW
      try (subst hW)
      try dsimp only at hW
      go_simp
      try with_reducible rfl
    try simp only [Act.put, List.setIfInBounds_toArray, List.set_cons_zero, List.set_cons_succ]
    refine wpT.take (i := 9) (by kernel_rfl) (by kernel_rfl) (by kernel_rfl) (by kernel_rfl) (by kernel_rfl) (fun _ => HS) ?_
    intro oi ho
    simp only [List.getElem?_toArray, List.getElem?_cons_succ, List.getElem?_cons_zero, Option.some.injEq] at ho
    subst ho
    refine ⟨?_, Or.inl ⟨by rfl, ?_⟩, fun _ _ _ h => h, ?_⟩
    rotate_left 1
    · intro W hW
      try (subst hW)
      try dsimp only at hW
      go_simp
      try with_reducible rfl
    try simp only [Act.put, List.setIfInBounds_toArray, List.set_cons_zero, List.set_cons_succ]
    refine wpT.take (i := 10) (by kernel_rfl) (by kernel_rfl) (by kernel_rfl) (by kernel_rfl) (by kernel_rfl) (fun _ => HS) ?_
    intro oi ho
    simp only [List.getElem?_toArray, List.getElem?_cons_succ, List.getElem?_cons_zero, Option.some.injEq] at ho
    subst ho
    refine ⟨?_, Or.inl ⟨by rfl, ?_⟩, fun _ _ _ h => h, ?_⟩
    rotate_left 1
    · intro W hW
      try (subst hW)
      try dsimp only at hW
      go_simp
      try with_reducible rfl
    try simp only [Act.put, List.setIfInBounds_toArray, List.set_cons_zero, List.set_cons_succ]
    refine wpT.take (i := 11) (by kernel_rfl) (by kernel_rfl) (by kernel_rfl) (by kernel_rfl) (by kernel_rfl) (fun _ => HS) ?_
    intro oi ho
    simp only [List.getElem?_toArray, List.getElem?_cons_succ, List.getElem?_cons_zero, Option.some.injEq] at ho
    subst ho
    refine ⟨?_, Or.inl ⟨by rfl, ?_⟩, fun _ _ _ h => h, ?_⟩
    rotate_left 1
    · intro W hW
      try (subst hW)
      try dsimp only at hW
      go_simp
      try with_reducible rfl
    try simp only [Act.put, List.setIfInBounds_toArray, List.set_cons_zero, List.set_cons_succ]
    refine wpT.done (by kernel_rfl) ?_
    clear hcv hlk y0 y1 y2
    have HSN := Lib.hid (BAt.start SD.out HKI.out HEI.out ((Below.refl w.heap.size w).drew))
    clear SD HKI HEI
    cases hsl : s.seen.lookup t with
    | some i =>
      have HE := Lib.hid (show nodeB (h + 1) t v s = (i, s) by rw [nodeB, hsl])
      have hfl2 := HFL.out
      rw [hsl] at hfl2
      simp only [Option.map_some] at hfl2
      subst hfl2
      clear hsl HS
      go_wp2_with fail
      go_ret
      rw [HE.out]
      have h2 := HSN.out
      exact ⟨o, nk, ns, fk, fs, rfl, ⟨h2.st, h2.ki, h2.ei, by have := h2.nk; omega, by have := h2.ns; omega, h2.keep, h2.size, h2.own⟩⟩
    | none =>
      have hfl2 := HFL.out
      rw [hsl] at hfl2
      simp only [Option.map_none] at hfl2
      subst hfl2
      have HSL := Lib.hid hsl
      clear hsl HS
      have HMI : Hid ((n : Int) / 2 = (m : Int)) := Lib.hid (by have := HN2.out; omega)
      have htl : (t.take m).length = m := by rw [List.length_take, ← HT.out.1]; omega
      have htd : (t.drop m).length = m := by rw [List.length_drop, ← HT.out.1]; have := HN2.out; omega
      have HK1 := Lib.hid (nodeB_ok 6 h (t.take m) (v + 1) s HSI.out (by rw [htl, HM.out]) (fun x hx => H01.out x (List.mem_of_mem_take hx)) (by omega) (by omega))
      obtain ⟨r1, hr1⟩ : ∃ r, r = nodeB h (t.take m) (v + 1) s := ⟨_, rfl⟩
      rw [← hr1] at HK1
      have HK2 := Lib.hid (nodeB_ok 6 h (t.drop m) (v + 1) r1.2 HK1.out.inv (by rw [htd, HM.out]) (fun x hx => H01.out x (List.mem_of_mem_drop hx)) (by omega) (by omega))
      obtain ⟨r2, hr2⟩ : ∃ r, r = nodeB h (t.drop m) (v + 1) r1.2 := ⟨_, rfl⟩
      rw [← hr2] at HK2
      have HR := Lib.hid (And.intro hr1 hr2)
      obtain ⟨tb, toff, rfl, _, _⟩ := HROW.out.byte (i := 0) (by have := HT.out.1; omega)
      have HC1 := Lib.hid (fun W (hB : BAt w0 bk 0 o nk ns s w W o nk ns fk fs) => HIH.out (t.take m) (v + 1) s o nk ns fk fs (some ⟨tb, toff, none⟩) cp W HSI.out (by rw [htl, HM.out]) (fun x hx => H01.out x (List.mem_of_mem_take hx)) (by omega) (by omega) (by rw [htl]; omega) (HROW.out.take m) (by rw [← HM.out]; omega) (by rw [← HM.out]; omega) (by rw [← HM.out]; omega) hB.st hB.ki hB.ei)
      have HC2 := Lib.hid (fun W o1 nk1 ns1 fk1 fs1 (hB : BAt w0 bk (m - 1) o nk ns r1.2 w W o1 nk1 ns1 fk1 fs1) => HIH.out (t.drop m) (v + 1) r1.2 o1 nk1 ns1 fk1 fs1 (some ⟨tb, toff + m, none⟩) (cp - m) W HK1.out.inv (by rw [htd, HM.out]) (fun x hx => H01.out x (List.mem_of_mem_drop hx)) (by omega) (by omega) (by rw [htd]; have := HN2.out; omega) (row_dropU HROW.out m) (by have := HK1.out.len; rw [← HM.out] at this ⊢; omega) (by have := hB.nk; rw [← HM.out]; omega) (by have := hB.ns; rw [← HM.out]; omega) hB.st hB.ki hB.ei)
      rw [htl, ← hr1, show ((v + 1 : Nat) : Int) = (v : Int) + 1 from rfl, ← HM.out] at HC1
      rw [htd, ← hr2, show ((v + 1 : Nat) : Int) = (v : Int) + 1 from rfl, ← HM.out] at HC2
      clear htl htd hr1 hr2
      generalize w.drew = W1 at HSN ⊢
      go_upto_region 7 with fail
      rw [HMI.out]
      go_cut [10] (fun p W => MidP w0 bk (m - 1 + (m - 1)) o nk ns (v, r1.1, r2.1) r2.2 w p W)
      case first =>
        have HSB := Lib.hid (HSN.out.step (Below.refl _ W1).drew)
        have hnm : (n : Int) - (m : Int) = (m : Int) := by have := HN2.out; omega
        have hnm2 : n - m = m := by have := HN2.out; omega
        have hmcp : m ≤ cp := by omega
        have hmnl : m ≤ n := by omega
        have hncm : ¬ cp = m := by omega
        have hvw : IntKind.i64.wrap ((v : Int) + 1) = (v : Int) + 1 := IntWalk.i64_in _ (by omega)
        refine wpT_region [] (fun _ => True) (by kernel_rfl) ?_
        try simp only [Act.put, List.setIfInBounds_toArray, List.set_cons_zero, List.set_cons_succ]
        refine wpT.take (i := 0) (by kernel_rfl) (by kernel_rfl) (by kernel_rfl) (by kernel_rfl) (by kernel_rfl) (fun _ => trivial) ?_
        intro oi ho
        simp only [List.getElem?_toArray, List.getElem?_cons_succ, List.getElem?_cons_zero, Option.some.injEq] at ho
        subst ho
        refine ⟨?_, Or.inl ⟨by rfl, ?_⟩, fun _ _ _ h => h, ?_⟩
        rotate_left 1
        · intro W hW
          try (subst hW)
          try dsimp only at hW
          go_simp
          try with_reducible rfl
        try simp only [Act.put, List.setIfInBounds_toArray, List.set_cons_zero, List.set_cons_succ]
        refine wpT.take (i := 1) (by kernel_rfl) (by kernel_rfl) (by kernel_rfl) (by kernel_rfl) (by kernel_rfl) (fun _ => trivial) ?_
        intro oi ho
        simp only [List.getElem?_toArray, List.getElem?_cons_succ, List.getElem?_cons_zero, Option.some.injEq] at ho
        subst ho
        refine ⟨?_, Or.inl ⟨by rfl, ?_⟩, fun _ _ _ h => h, ?_⟩
        rotate_left 1
        · intro W hW
          try (subst hW)
          try dsimp only at hW
          go_simp
          try with_reducible rfl
        try simp only [Act.put, List.setIfInBounds_toArray, List.set_cons_zero, List.set_cons_succ]
        refine wpT.take (i := 2) (by kernel_rfl) (by kernel_rfl) (by kernel_rfl) (by kernel_rfl) (by kernel_rfl) (fun _ => trivial) ?_
        intro oi ho
        simp only [List.getElem?_toArray, List.getElem?_cons_succ, List.getElem?_cons_zero, Option.some.injEq] at ho
        subst ho
        refine ⟨?_, Or.inl ⟨by rfl, ?_⟩, fun _ _ _ h => h, ?_⟩
        rotate_left 1
        · intro W hW
          try (subst hW)
          try dsimp only at hW
          go_simp
          try with_reducible rfl
        try simp only [Act.put, List.setIfInBounds_toArray, List.set_cons_zero, List.set_cons_succ]
        refine wpT.take (i := 3) (by kernel_rfl) (by kernel_rfl) (by kernel_rfl) (by kernel_rfl) (by kernel_rfl) (fun _ => trivial) ?_
        intro oi ho
        simp only [List.getElem?_toArray, List.getElem?_cons_succ, List.getElem?_cons_zero, Option.some.injEq] at ho
        subst ho
        refine ⟨?_, Or.inl ⟨by rfl, ?_⟩, fun _ _ _ h => h, ?_⟩
        rotate_left 1
        · intro W hW
          try (subst hW)
          try dsimp only at hW
          go_simp
          try with_reducible rfl
        try simp only [Act.put, List.setIfInBounds_toArray, List.set_cons_zero, List.set_cons_succ]
        refine wpT.take (i := 4) (by kernel_rfl) (by kernel_rfl) (by kernel_rfl) (by kernel_rfl) (by kernel_rfl) (fun _ => trivial) ?_
        intro oi ho
        simp only [List.getElem?_toArray, List.getElem?_cons_succ, List.getElem?_cons_zero, Option.some.injEq] at ho
        subst ho
        refine ⟨?_, Or.inl ⟨by rfl, ?_⟩, fun _ _ _ h => h, ?_⟩
        rotate_left 1
        · intro W hW
          try (subst hW)
          try dsimp only at hW
          go_simp
          try with_reducible rfl
        try simp only [Act.put, List.setIfInBounds_toArray, List.set_cons_zero, List.set_cons_succ]
        refine wpT.take (i := 5) (by kernel_rfl) (by kernel_rfl) (by kernel_rfl) (by kernel_rfl) (by kernel_rfl) (fun _ => trivial) ?_
        intro oi ho
        simp only [List.getElem?_toArray, List.getElem?_cons_succ, List.getElem?_cons_zero, Option.some.injEq] at ho
        subst ho
        refine ⟨?_, Or.inl ⟨by rfl, ?_⟩, fun _ _ _ h => h, ?_⟩
        rotate_left 1
        · intro W hW
          try (subst hW)
          try dsimp only at hW
          go_simp
          try with_reducible rfl
        try simp only [Act.put, List.setIfInBounds_toArray, List.set_cons_zero, List.set_cons_succ]
        refine wpT.take (i := 6) (by kernel_rfl) (by kernel_rfl) (by kernel_rfl) (by kernel_rfl) (by kernel_rfl) (fun _ => trivial) ?_
        intro oi ho
        simp only [List.getElem?_toArray, List.getElem?_cons_succ, List.getElem?_cons_zero, Option.some.injEq] at ho
        subst ho
        refine ⟨?_, Or.inl ⟨by rfl, ?_⟩, fun _ _ _ h => h, ?_⟩
        rotate_left 1
        · intro W hW
          try (subst hW)
          try dsimp only at hW
          go_simp
          try with_reducible rfl
        try simp only [Act.put, List.setIfInBounds_toArray, List.set_cons_zero, List.set_cons_succ]
        refine wpT.take (i := 8) (by kernel_rfl) (by kernel_rfl) (by kernel_rfl) (by kernel_rfl) (by kernel_rfl) (fun _ => trivial) ?_
        intro oi ho
        simp only [List.getElem?_toArray, List.getElem?_cons_succ, List.getElem?_cons_zero, Option.some.injEq] at ho
        subst ho
        refine ⟨?_, Or.inl ⟨by rfl, ?_⟩, fun _ _ _ h => h, ?_⟩
        rotate_left 1
        · intro W hW
          try (subst hW)
          try dsimp only at hW
          go_simp
          try with_reducible rfl
        try simp only [Act.put, List.setIfInBounds_toArray, List.set_cons_zero, List.set_cons_succ]
        refine wpT.take (i := 9) (by kernel_rfl) (by kernel_rfl) (by kernel_rfl) (by kernel_rfl) (by kernel_rfl) (fun _ => trivial) ?_
        intro oi ho
        simp only [List.getElem?_toArray, List.getElem?_cons_succ, List.getElem?_cons_zero, Option.some.injEq] at ho
        subst ho
        refine ⟨?_, Or.inl ⟨by rfl, ?_⟩, fun _ _ _ h => h, ?_⟩
        rotate_left 1
        · intro W hW
          try (subst hW)
          try dsimp only at hW
          go_simp
          try with_reducible rfl
        try simp only [Act.put, List.setIfInBounds_toArray, List.set_cons_zero, List.set_cons_succ]
        refine wpT.take (i := 10) (by kernel_rfl) (by kernel_rfl) (by kernel_rfl) (by kernel_rfl) (by kernel_rfl) (fun _ => trivial) ?_
        intro oi ho
        simp only [List.getElem?_toArray, List.getElem?_cons_succ, List.getElem?_cons_zero, Option.some.injEq] at ho
        subst ho
        refine ⟨?_, Or.inl ⟨by rfl, ?_⟩, fun _ _ _ h => h, ?_⟩
        rotate_left 1
        · intro W hW
          try (subst hW)
          try dsimp only at hW
          go_simp
          try with_reducible rfl
        try simp only [Act.put, List.setIfInBounds_toArray, List.set_cons_zero, List.set_cons_succ]
        refine wpT.take (i := 11) (by kernel_rfl) (by kernel_rfl) (by kernel_rfl) (by kernel_rfl) (by kernel_rfl) (fun _ => trivial) ?_
        intro oi ho
        simp only [List.getElem?_toArray, List.getElem?_cons_succ, List.getElem?_cons_zero, Option.some.injEq] at ho
        subst ho
        refine ⟨?_, Or.inl ⟨by rfl, ?_⟩, fun _ _ _ h => h, ?_⟩
        rotate_left 1
        · intro W hW
          try (subst hW)
          try dsimp only at hW
          go_simp
          try with_reducible rfl
        try simp only [Act.put, List.setIfInBounds_toArray, List.set_cons_zero, List.set_cons_succ]
        refine wpT.take (i := 12) (by kernel_rfl) (by kernel_rfl) (by kernel_rfl) (by kernel_rfl) (by kernel_rfl) (fun _ => trivial) ?_
        intro oi ho
        simp only [List.getElem?_toArray, List.getElem?_cons_succ, List.getElem?_cons_zero, Option.some.injEq] at ho
        subst ho
        refine ⟨?_, Or.inl ⟨by rfl, ?_⟩, fun _ _ _ h => h, ?_⟩
        rotate_left 1
        · intro W hW
          try (subst hW)
          try dsimp only at hW
          go_simp
          try with_reducible rfl
        try simp only [Act.put, List.setIfInBounds_toArray, List.set_cons_zero, List.set_cons_succ]
        refine wpT.take (i := 13) (by kernel_rfl) (by kernel_rfl) (by kernel_rfl) (by kernel_rfl) (by kernel_rfl) (fun _ => trivial) ?_
        intro oi ho
        simp only [List.getElem?_toArray, List.getElem?_cons_succ, List.getElem?_cons_zero, Option.some.injEq] at ho
        subst ho
        refine ⟨?_, Or.inl ⟨by rfl, ?_⟩, fun _ _ _ h => h, ?_⟩
        rotate_left 1
        · intro W hW
          try (subst hW)
          try dsimp only at hW
          go_simp
          try with_reducible rfl
        have hzW := HSN.out.size
        have hcells : (Value.agg #[.int .i64 0, .int .i64 0, .int .i64 0]).cells = #[.int .i64 0, .int .i64 0, .int .i64 0] := rfl
        try simp only [Act.put, List.setIfInBounds_toArray, List.set_cons_zero, List.set_cons_succ]
        refine wpT.two (i := 7) (j := 16) (by kernel_rfl) ?_ ?_
        · skip
          intro oi ho
          simp only [List.getElem?_toArray, List.getElem?_cons_succ, List.getElem?_cons_zero, Option.some.injEq] at ho
          subst ho
          intro K' hK
          have HK := Lib.hid hK
          clear hK
          go_simp
          go_at_call 35
          refine (HC1.out W1.drew HSB.out).mono ?_
          rintro e w5 ⟨o1, nk1, ns1, fk1, fs1, rfl, hB1⟩
          have HB1 := Lib.hid (HSB.out.trans hB1)
          rw [Nat.zero_add] at HB1
          clear hB1
          refine HK.out _ _ (fun _ => trivial) ?_
          try simp only [Act.put, List.setIfInBounds_toArray, List.set_cons_zero, List.set_cons_succ]
          refine wpT.two (i := 14) (j := 16) (by kernel_rfl) ?_ ?_
          · skip
            intro oi ho
            simp only [List.getElem?_toArray, List.getElem?_cons_succ, List.getElem?_cons_zero, Option.some.injEq] at ho
            subst ho
            intro K' hK
            have HK := Lib.hid hK
            clear hK
            go_simp
            go_at_call 35
            refine (HC2.out w5 _ _ _ _ _ HB1.out).mono ?_
            rintro e w6 ⟨o2, nk2, ns2, fk2, fs2, rfl, hB2⟩
            have HB2 := Lib.hid (HB1.out.trans hB2)
            clear hB2
            refine HK.out _ _ (fun _ => trivial) ?_
            try simp only [Act.put, List.setIfInBounds_toArray, List.set_cons_zero, List.set_cons_succ]
            refine wpT.take (i := 15) (by kernel_rfl) (by kernel_rfl) (by kernel_rfl) (by kernel_rfl) (by kernel_rfl) (fun _ => trivial) ?_
            intro oi ho
            simp only [List.getElem?_toArray, List.getElem?_cons_succ, List.getElem?_cons_zero, Option.some.injEq] at ho
            subst ho
            refine ⟨?_, Or.inl ⟨by rfl, ?_⟩, fun _ _ _ h => h, ?_⟩
            rotate_left 1
            · intro W hW
              try (subst hW)
              try dsimp only at hW
              go_simp
              try with_reducible rfl
            try simp only [Act.put, List.setIfInBounds_toArray, List.set_cons_zero, List.set_cons_succ]
            refine wpT.one (i := 16) (by kernel_rfl) ?_
            intro oi ho
            simp only [List.getElem?_toArray, List.getElem?_cons_succ, List.getElem?_cons_zero, Option.some.injEq] at ho
            subst ho
            intro K' hK
            have HK := Lib.hid hK
            clear hK
            go_simp
            have HBX := Lib.hid (boxAt.made HB2.out (.agg #[.int .i64 0, .int .i64 0, .int .i64 0]))
            have HB3 := Lib.hid (HB2.out.step ((Below.refl _ w6).alloc (Nat.le_refl _) (.cells #[.int .i64 0, .int .i64 0, .int .i64 0] 72)))
            have hwx : w.heap.size ≤ w6.heap.size := HB2.out.size
            refine HK.out _ _ (fun _ => trivial) ?_
            try simp only [Act.put, List.setIfInBounds_toArray, List.set_cons_zero, List.set_cons_succ]
            refine wpT.one (i := 17) (by kernel_rfl) ?_
            intro oi ho
            simp only [List.getElem?_toArray, List.getElem?_cons_succ, List.getElem?_cons_zero, Option.some.injEq] at ho
            subst ho
            intro K' hK
            have HK := Lib.hid hK
            clear hK
            go_simp
            have HBV := Lib.hid (boxAt.made HB2.out (valC (v, r1.1, r2.1)))
            have HBW := Lib.hid (HB2.out.step ((Below.refl _ w6).alloc (Nat.le_refl _) (.cells (valC (v, r1.1, r2.1)).cells 72)))
            refine HK.out _ _ (fun _ => trivial) ?_
            try simp only [Act.put, List.setIfInBounds_toArray, List.set_cons_zero, List.set_cons_succ]
            refine wpT.done (by kernel_rfl) ?_
            go_wp2_with fail
            go_meet
            case rel => exact ⟨_, _, _, _, _, _, rfl, HBW.out, HBV.out, hwx⟩
          · skip
            intro oi ho
            simp only [List.getElem?_toArray, List.getElem?_cons_succ, List.getElem?_cons_zero, Option.some.injEq] at ho
            subst ho
            intro K' hK
            have HK := Lib.hid hK
            clear hK
            go_simp
            have HBX := Lib.hid (boxAt.made HB1.out (.agg #[.int .i64 0, .int .i64 0, .int .i64 0]))
            have HB3 := Lib.hid (HB1.out.step ((Below.refl _ w5).alloc (Nat.le_refl _) (.cells #[.int .i64 0, .int .i64 0, .int .i64 0] 72)))
            have hwx : w.heap.size ≤ w5.heap.size := HB1.out.size
            refine HK.out _ _ (fun _ => trivial) ?_
            try simp only [Act.put, List.setIfInBounds_toArray, List.set_cons_zero, List.set_cons_succ]
            refine wpT.one (i := 14) (by kernel_rfl) ?_
            intro oi ho
            simp only [List.getElem?_toArray, List.getElem?_cons_succ, List.getElem?_cons_zero, Option.some.injEq] at ho
            subst ho
            intro K' hK
            have HK := Lib.hid hK
            clear hK
            go_simp
            go_at_call 35
            refine (HC2.out _ _ _ _ _ _ HB3.out).mono ?_
            rintro e w6 ⟨o2, nk2, ns2, fk2, fs2, rfl, hB2⟩
            have HB4 := Lib.hid (HB3.out.trans hB2)
            have HBY := Lib.hid (HBX.out.over hB2)
            clear hB2
            refine HK.out _ _ (fun _ => trivial) ?_
            try simp only [Act.put, List.setIfInBounds_toArray, List.set_cons_zero, List.set_cons_succ]
            refine wpT.take (i := 15) (by kernel_rfl) (by kernel_rfl) (by kernel_rfl) (by kernel_rfl) (by kernel_rfl) (fun _ => trivial) ?_
            intro oi ho
            simp only [List.getElem?_toArray, List.getElem?_cons_succ, List.getElem?_cons_zero, Option.some.injEq] at ho
            subst ho
            refine ⟨?_, Or.inl ⟨by rfl, ?_⟩, fun _ _ _ h => h, ?_⟩
            rotate_left 1
            · intro W hW
              try (subst hW)
              try dsimp only at hW
              go_simp
              try with_reducible rfl
            obtain ⟨⟨x0, x1⟩, ⟨x2, x3⟩, ⟨x4, x5⟩, x6⟩ := HBY.out.three
            try simp only [Act.put, List.setIfInBounds_toArray, List.set_cons_zero, List.set_cons_succ]
            refine wpT.one (i := 17) (by kernel_rfl) ?_
            intro oi ho
            simp only [List.getElem?_toArray, List.getElem?_cons_succ, List.getElem?_cons_zero, Option.some.injEq] at ho
            subst ho
            intro K' hK
            have HK := Lib.hid hK
            clear hK
            go_simp
            have HBW := Lib.hid (((HB4.out.write HBY.out hwx hbk 0 (.int .i64 v)).write (HBY.out.write1 0 (.int .i64 v)) hwx hbk 1 (.int .i64 r1.1)).write ((HBY.out.write1 0 (.int .i64 v)).write1 1 (.int .i64 r1.1)) hwx hbk 2 (.int .i64 r2.1))
            refine HK.out _ _ (fun _ => trivial) ?_
            try simp only [Act.put, List.setIfInBounds_toArray, List.set_cons_zero, List.set_cons_succ]
            refine wpT.done (by kernel_rfl) ?_
            clear x0 x1 x2 x3 x4 x5 x6
            go_wp2_with fail
            go_meet
            case rel => exact ⟨_, _, _, _, _, _, rfl, HBW.out, HBY.out.write _ _ _, hwx⟩
        · skip
          intro oi ho
          simp only [List.getElem?_toArray, List.getElem?_cons_succ, List.getElem?_cons_zero, Option.some.injEq] at ho
          subst ho
          intro K' hK
          have HK := Lib.hid hK
          clear hK
          go_simp
          have HBX := Lib.hid (show boxAt bk o W1.heap.size (.agg #[.int .i64 0, .int .i64 0, .int .i64 0]) _ from boxAt.made HSB.out (.agg #[.int .i64 0, .int .i64 0, .int .i64 0]))
          have HB3 := Lib.hid (HSB.out.step ((Below.refl _ W1.drew).alloc (Nat.le_refl _) (.cells #[.int .i64 0, .int .i64 0, .int .i64 0] 72)))
          have hwx : w.heap.size ≤ W1.heap.size := HSB.out.size
          refine HK.out _ _ (fun _ => trivial) ?_
          try simp only [Act.put, List.setIfInBounds_toArray, List.set_cons_zero, List.set_cons_succ]
          refine wpT.one (i := 7) (by kernel_rfl) ?_
          intro oi ho
          simp only [List.getElem?_toArray, List.getElem?_cons_succ, List.getElem?_cons_zero, Option.some.injEq] at ho
          subst ho
          intro K' hK
          have HK := Lib.hid hK
          clear hK
          go_simp
          go_at_call 35
          refine (HC1.out _ HB3.out).mono ?_
          rintro e w5 ⟨o1, nk1, ns1, fk1, fs1, rfl, hB1⟩
          have HB1 := Lib.hid (HB3.out.trans hB1)
          have HBY := Lib.hid (HBX.out.over hB1)
          rw [Nat.zero_add] at HB1
          clear hB1
          refine HK.out _ _ (fun _ => trivial) ?_
          try simp only [Act.put, List.setIfInBounds_toArray, List.set_cons_zero, List.set_cons_succ]
          refine wpT.one (i := 14) (by kernel_rfl) ?_
          intro oi ho
          simp only [List.getElem?_toArray, List.getElem?_cons_succ, List.getElem?_cons_zero, Option.some.injEq] at ho
          subst ho
          intro K' hK
          have HK := Lib.hid hK
          clear hK
          go_simp
          go_at_call 35
          refine (HC2.out w5 _ _ _ _ _ HB1.out).mono ?_
          rintro e w6 ⟨o2, nk2, ns2, fk2, fs2, rfl, hB2⟩
          have HB2 := Lib.hid (HB1.out.trans hB2)
          have HBZ := Lib.hid (HBY.out.over hB2)
          clear hB2
          refine HK.out _ _ (fun _ => trivial) ?_
          try simp only [Act.put, List.setIfInBounds_toArray, List.set_cons_zero, List.set_cons_succ]
          refine wpT.take (i := 15) (by kernel_rfl) (by kernel_rfl) (by kernel_rfl) (by kernel_rfl) (by kernel_rfl) (fun _ => trivial) ?_
          intro oi ho
          simp only [List.getElem?_toArray, List.getElem?_cons_succ, List.getElem?_cons_zero, Option.some.injEq] at ho
          subst ho
          refine ⟨?_, Or.inl ⟨by rfl, ?_⟩, fun _ _ _ h => h, ?_⟩
          rotate_left 1
          · intro W hW
            try (subst hW)
            try dsimp only at hW
            go_simp
            try with_reducible rfl
          obtain ⟨⟨x0, x1⟩, ⟨x2, x3⟩, ⟨x4, x5⟩, x6⟩ := HBZ.out.three
          try simp only [Act.put, List.setIfInBounds_toArray, List.set_cons_zero, List.set_cons_succ]
          refine wpT.one (i := 17) (by kernel_rfl) ?_
          intro oi ho
          simp only [List.getElem?_toArray, List.getElem?_cons_succ, List.getElem?_cons_zero, Option.some.injEq] at ho
          subst ho
          intro K' hK
          have HK := Lib.hid hK
          clear hK
          go_simp
          have HBW := Lib.hid (((HB2.out.write HBZ.out hwx hbk 0 (.int .i64 v)).write (HBZ.out.write1 0 (.int .i64 v)) hwx hbk 1 (.int .i64 r1.1)).write ((HBZ.out.write1 0 (.int .i64 v)).write1 1 (.int .i64 r1.1)) hwx hbk 2 (.int .i64 r2.1))
          refine HK.out _ _ (fun _ => trivial) ?_
          try simp only [Act.put, List.setIfInBounds_toArray, List.set_cons_zero, List.set_cons_succ]
          refine wpT.done (by kernel_rfl) ?_
          clear x0 x1 x2 x3 x4 x5 x6
          go_wp2_with fail
          go_meet
          case rel => exact ⟨_, _, _, _, _, _, rfl, HBW.out, HBZ.out.write _ _ _, hwx⟩
      case rest =>
      clear HC1 HC2 HSI HIH
      obtain ⟨bc, o2, nk2, ns2, fk2, fs2, rfl, hB, hX, hwx⟩ := hcut
      have HB := Lib.hid hB; have HX := Lib.hid hX
      have l1 := HK1.out.len; have l2 := HK2.out.len; have l3 := HK1.out.lt; have l4 := HK2.out.lt
      rw [← HM.out] at l1 l2
      have hokc : okC (v, r1.1, r2.1) := ⟨by show v ≤ 1000; omega, by show r1.1 ≤ 1000; have := HK2.out.pre.length_le; omega, by show r2.1 ≤ 1000; omega⟩
      have hlen2 : r2.2.cs.length ≤ 200 := by omega
      have HOKC := Lib.hid hokc
      have hlk := (hB.st.drew.fmap 2 (k := 72) (e := 3)).look (t := 83) keyedC Try.underlying83 Try.underlying3 (by rfl) (keyOf_C hokc)
      obtain ⟨kl, hkl⟩ : ∃ z, z = fk2 (keyC (v, r1.1, r2.1)) := ⟨_, rfl⟩
      rw [← hkl] at hlk
      have HKL := Lib.hid (show kl = (r2.2.cs.idxOf? (v, r1.1, r2.1)).map (fun j => ((j + 2 : Nat) : Int)) by rw [hkl, hB.ki _ hokc])
      simp only [valC] at hlk
      have y0 := (hB.st.drew.cell 0 0 rfl).1
      have y1 := (hB.st.drew.cell 0 1 rfl).1
      obtain ⟨⟨x0, _⟩, ⟨x2, _⟩, ⟨x4, _⟩, _⟩ := (show boxAt bk o2 bc (.agg #[.int .i64 (v : Nat), .int .i64 (r1.1 : Nat), .int .i64 (r2.1 : Nat)]) wc.drew from hX).three
      clear hB hX hokc hkl l1 l2 l3 l4
      go_upto_region 8 with fail
      refine wpT_region [] (fun W => W = wc.drew) (by kernel_rfl) ?_
      have HS : wc.drew = wc.drew := rfl
      try simp only [Act.put, List.setIfInBounds_toArray, List.set_cons_zero, List.set_cons_succ]
      refine wpT.take (i := 0) (by kernel_rfl) (by kernel_rfl) (by kernel_rfl) (by kernel_rfl) (by kernel_rfl) (fun _ => HS) ?_
      intro oi ho
      simp only [List.getElem?_toArray, List.getElem?_cons_succ, List.getElem?_cons_zero, Option.some.injEq] at ho
      subst ho
      refine ⟨?_, Or.inl ⟨by rfl, ?_⟩, fun _ _ _ h => h, ?_⟩
      rotate_left 1
      · intro W hW
        try (subst hW)
        try dsimp only at hW
        go_simp
        try with_reducible rfl
      try simp only [Act.put, List.setIfInBounds_toArray, List.set_cons_zero, List.set_cons_succ]
      refine wpT.take (i := 1) (by kernel_rfl) (by kernel_rfl) (by kernel_rfl) (by kernel_rfl) (by kernel_rfl) (fun _ => HS) ?_
      intro oi ho
      simp only [List.getElem?_toArray, List.getElem?_cons_succ, List.getElem?_cons_zero, Option.some.injEq] at ho
      subst ho
      refine ⟨?_, Or.inl ⟨by rfl, ?_⟩, fun _ _ _ h => h, ?_⟩
      rotate_left 1
      · intro W hW
        try (subst hW)
        try dsimp only at hW
        go_simp
        try with_reducible rfl
      try simp only [Act.put, List.setIfInBounds_toArray, List.set_cons_zero, List.set_cons_succ]
      refine wpT.take (i := 2) (by kernel_rfl) (by kernel_rfl) (by kernel_rfl) (by kernel_rfl) (by kernel_rfl) (fun _ => HS) ?_
      intro oi ho
      simp only [List.getElem?_toArray, List.getElem?_cons_succ, List.getElem?_cons_zero, Option.some.injEq] at ho
      subst ho
      refine ⟨?_, Or.inl ⟨by rfl, ?_⟩, fun _ _ _ h => h, ?_⟩
      rotate_left 1
      · intro W hW
        try (subst hW)
        try dsimp only at hW
        go_simp
        try with_reducible rfl
      try simp only [Act.put, List.setIfInBounds_toArray, List.set_cons_zero, List.set_cons_succ]
      refine wpT.take (i := 3) (by kernel_rfl) (by kernel_rfl) (by kernel_rfl) (by kernel_rfl) (by kernel_rfl) (fun _ => HS) ?_
      intro oi ho
      simp only [List.getElem?_toArray, List.getElem?_cons_succ, List.getElem?_cons_zero, Option.some.injEq] at ho
      subst ho
      refine ⟨?_, Or.inl ⟨by rfl, ?_⟩, fun _ _ _ h => h, ?_⟩
      rotate_left 1
      · intro W hW
        try (subst hW)
        try dsimp only at hW
        go_simp
        try with_reducible rfl
      try simp only [Act.put, List.setIfInBounds_toArray, List.set_cons_zero, List.set_cons_succ]
      refine wpT.take (i := 4) (by kernel_rfl) (by kernel_rfl) (by kernel_rfl) (by kernel_rfl) (by kernel_rfl) (fun _ => HS) ?_
      intro oi ho
      simp only [List.getElem?_toArray, List.getElem?_cons_succ, List.getElem?_cons_zero, Option.some.injEq] at ho
      subst ho
      refine ⟨?_, Or.inl ⟨by rfl, ?_⟩, fun _ _ _ h => h, ?_⟩
      rotate_left 1
      · intro W hW
        try (subst hW)
        try dsimp only at hW
        go_simp
        try with_reducible rfl
      try simp only [Act.put, List.setIfInBounds_toArray, List.set_cons_zero, List.set_cons_succ]
      refine wpT.take (i := 5) (by kernel_rfl) (by kernel_rfl) (by kernel_rfl) (by kernel_rfl) (by kernel_rfl) (fun _ => HS) ?_
      intro oi ho
      simp only [List.getElem?_toArray, List.getElem?_cons_succ, List.getElem?_cons_zero, Option.some.injEq] at ho
      subst ho
      refine ⟨?_, Or.inl ⟨by rfl, ?_⟩, fun _ _ _ h => h, ?_⟩
      rotate_left 1
      · intro W hW
        try (subst hW)
        try dsimp only at hW
        go_simp
        try with_reducible rfl
      try simp only [Act.put, List.setIfInBounds_toArray, List.set_cons_zero, List.set_cons_succ]
      refine wpT.take (i := 6) (by kernel_rfl) (by kernel_rfl) (by kernel_rfl) (by kernel_rfl) (by kernel_rfl) (fun _ => HS) ?_
      intro oi ho
      simp only [List.getElem?_toArray, List.getElem?_cons_succ, List.getElem?_cons_zero, Option.some.injEq] at ho
      subst ho
      refine ⟨?_, Or.inl ⟨by rfl, ?_⟩, fun _ _ _ h => h, ?_⟩
      rotate_left 1
      · intro W hW
        try (subst hW)
        try dsimp only at hW
        go_simp
        try with_reducible rfl
      try simp only [Act.put, List.setIfInBounds_toArray, List.set_cons_zero, List.set_cons_succ]
      refine wpT.take (i := 7) (by kernel_rfl) (by kernel_rfl) (by kernel_rfl) (by kernel_rfl) (by kernel_rfl) (fun _ => HS) ?_
      intro oi ho
      simp only [List.getElem?_toArray, List.getElem?_cons_succ, List.getElem?_cons_zero, Option.some.injEq] at ho
      subst ho
      refine ⟨?_, Or.inl ⟨by rfl, ?_⟩, fun _ _ _ h => h, ?_⟩
      rotate_left 1
      · intro W hW
        try (subst hW)
        try dsimp only at hW
        go_simp
        try with_reducible rfl
      try simp only [Act.put, List.setIfInBounds_toArray, List.set_cons_zero, List.set_cons_succ]
      refine wpT.take (i := 8) (by kernel_rfl) (by kernel_rfl) (by kernel_rfl) (by kernel_rfl) (by kernel_rfl) (fun _ => HS) ?_
      intro oi ho
      simp only [List.getElem?_toArray, List.getElem?_cons_succ, List.getElem?_cons_zero, Option.some.injEq] at ho
      subst ho
      refine ⟨?_, Or.inl ⟨by rfl, ?_⟩, fun _ _ _ h => h, ?_⟩
      rotate_left 1
      · intro W hW
        try (subst hW)
        try dsimp only at hW
        go_simp
        try with_reducible rfl
      try simp only [Act.put, List.setIfInBounds_toArray, List.set_cons_zero, List.set_cons_succ]
      refine wpT.take (i := 9) (by kernel_rfl) (by kernel_rfl) (by kernel_rfl) (by kernel_rfl) (by kernel_rfl) (fun _ => HS) ?_
      intro oi ho
      simp only [List.getElem?_toArray, List.getElem?_cons_succ, List.getElem?_cons_zero, Option.some.injEq] at ho
      subst ho
      refine ⟨?_, Or.inl ⟨by rfl, ?_⟩, fun _ _ _ h => h, ?_⟩
      rotate_left 1
      · intro W hW
        try (subst hW)
        try dsimp only at hW
        go_simp
        try with_reducible rfl
      try simp only [Act.put, List.setIfInBounds_toArray, List.set_cons_zero, List.set_cons_succ]
      refine wpT.take (i := 10) (by kernel_rfl) (by kernel_rfl) (by kernel_rfl) (by kernel_rfl) (by kernel_rfl) (fun _ => HS) ?_
      intro oi ho
      simp only [List.getElem?_toArray, List.getElem?_cons_succ, List.getElem?_cons_zero, Option.some.injEq] at ho
      subst ho
      refine ⟨?_, Or.inl ⟨by rfl, ?_⟩, fun _ _ _ h => h, ?_⟩
      rotate_left 1
      · intro W hW
        try (subst hW)
        try dsimp only at hW
        go_simp
        try with_reducible rfl
      try simp only [Act.put, List.setIfInBounds_toArray, List.set_cons_zero, List.set_cons_succ]
      refine wpT.done (by kernel_rfl) ?_
      clear hlk y0 y1 HS
      go_upto_block 0 with fail
      go_cut [11] (fun u W => MidQ w0 bk (m + m - 1) o nk ns (nodeB (h + 1) t v s) r2.2.seen w u W)
      case first =>
        have HBD := Lib.hid (HB.out.step (Below.refl _ wc).drew)
        by_cases heq : r1.1 = r2.1
        · have HE := Lib.hid (show nodeB (h + 1) t v s = (r1.1, ⟨r2.2.cs, (t, r1.1) :: r2.2.seen⟩) by
            rw [nodeB, HSL.out]
            simp only [← HM.out, ← HR.out.1, ← HR.out.2, if_pos heq])
          have hqi : ((r1.1 : Int) == (r2.1 : Int)) = true := by simp [heq]
          clear heq
          go_wp2_with fail
          go_meet
          case rel =>
            rw [HE.out]
            have h2 := HBD.out
            exact ⟨_, _, _, _, _, rfl, ⟨h2.st, h2.ki, h2.ei, by have := h2.nk; omega, by have := h2.ns; omega, h2.keep, h2.size, h2.own⟩, by have := h2.ns; omega⟩
        · have hqi : ((r1.1 : Int) == (r2.1 : Int)) = false := by simp; omega
          cases hx : r2.2.cs.idxOf? (v, r1.1, r2.1) with
          | some j =>
            have HE := Lib.hid (show nodeB (h + 1) t v s = (j + 2, ⟨r2.2.cs, (t, j + 2) :: r2.2.seen⟩) by
              rw [nodeB, HSL.out]
              simp only [← HM.out, ← HR.out.1, ← HR.out.2, if_neg heq, hx])
            have hkl := HKL.out
            rw [hx] at hkl
            simp only [Option.map_some] at hkl
            subst hkl
            clear heq hx
            go_wp2_with fail
            go_meet
            case rel =>
              rw [HE.out]
              have h2 := HBD.out
              exact ⟨_, _, _, _, _, rfl, ⟨h2.st, h2.ki, h2.ei, by have := h2.nk; omega, by have := h2.ns; omega, h2.keep, h2.size, h2.own⟩, by have := h2.ns; omega⟩
          | none =>
            have HE := Lib.hid (show nodeB (h + 1) t v s = (r2.2.cs.length + 2, ⟨r2.2.cs ++ [(v, r1.1, r2.1)], (t, r2.2.cs.length + 2) :: r2.2.seen⟩) by
              rw [nodeB, HSL.out]
              simp only [← HM.out, ← HR.out.1, ← HR.out.2, if_neg heq, hx])
            have HIN := Lib.hid hx
            have hkl := HKL.out
            rw [hx] at hkl
            simp only [Option.map_none] at hkl
            subst hkl
            clear heq hx
            have HBE := Lib.hid (HBD.out.step (Below.refl _ wc.drew).drew)
            have HXE := Lib.hid (show boxAt bk o2 bc (.agg #[.int .i64 (v : Nat), .int .i64 (r1.1 : Nat), .int .i64 (r2.1 : Nat)]) wc.drew.drew from HX.out)
            obtain ⟨w3, hw3⟩ : ∃ z, z = wc.drew.drew := ⟨_, rfl⟩
            rw [← hw3] at HBE HXE
            have S5 := Lib.hid (HBE.out.st.add (.keepB bk o2 w3) (keepB.refl _ _ _))
            have HOF := Lib.hid HBE.out.off
            have HZ := Lib.hid HBE.out.lt
            have FC := Lib.hid (fun W (hb : Below w3.heap.size w3 W) => (show W.cell? ⟨bk + 2, 0, none⟩ = some o2 ∧ W.cell? ⟨bc, 0, none⟩ = some (.int .i64 (v : Nat)) ∧ W.cell? ⟨bc, 1, none⟩ = some (.int .i64 (r1.1 : Nat)) ∧ W.cell? ⟨bc, 2, none⟩ = some (.int .i64 (r2.1 : Nat)) from
              ⟨Below.cellOf hb (HBE.out.st.cell 0 0 rfl).1, Below.cellOf hb HXE.out.three.1.1, Below.cellOf hb HXE.out.three.2.1.1, Below.cellOf hb HXE.out.three.2.2.1.1⟩))
            obtain ⟨i3, gi, gz0, gz1, gz2⟩ := info_parts infoC
            go_upto_region 12 with fail
            refine wpT_region [7, 10] (fun W => W.cell? ⟨bk + 2, 0, none⟩ = some o2 ∧ W.cell? ⟨bc, 0, none⟩ = some (.int .i64 (v : Nat)) ∧ W.cell? ⟨bc, 1, none⟩ = some (.int .i64 (r1.1 : Nat)) ∧ W.cell? ⟨bc, 2, none⟩ = some (.int .i64 (r2.1 : Nat))) (by kernel_rfl) ?_
            rw [← hw3]
            have HS := FC.out w3 (Below.refl _ _)
            clear hw3
            try simp only [Act.put, List.setIfInBounds_toArray, List.set_cons_zero, List.set_cons_succ]
            refine wpT.pure (i := 0) (by kernel_rfl) (by kernel_rfl) (by kernel_rfl) (by kernel_rfl) (by kernel_rfl) (fun _ => HS) ?_
            intro oi ho
            simp only [List.getElem?_toArray, List.getElem?_cons_succ, List.getElem?_cons_zero, Option.some.injEq] at ho
            subst ho
            refine ⟨?_, Or.inl ⟨by rfl, ?_⟩, fun _ _ _ h => h, ?_⟩
            rotate_left 1
            · intro W hW
              try (subst hW)
              try dsimp only at hW
              go_simp
              try with_reducible rfl
            try simp only [Act.put, List.setIfInBounds_toArray, List.set_cons_zero, List.set_cons_succ]
            refine wpT.take (i := 1) (by kernel_rfl) (by kernel_rfl) (by kernel_rfl) (by kernel_rfl) (by kernel_rfl) (fun _ => HS) ?_
            intro oi ho
            simp only [List.getElem?_toArray, List.getElem?_cons_succ, List.getElem?_cons_zero, Option.some.injEq] at ho
            subst ho
            refine ⟨?_, Or.inl ⟨by rfl, ?_⟩, fun _ _ _ h => h, ?_⟩
            rotate_left 1
            · intro W hW
              try (subst hW)
              try dsimp only at hW
              go_simp
              try with_reducible rfl
            try simp only [Act.put, List.setIfInBounds_toArray, List.set_cons_zero, List.set_cons_succ]
            refine wpT.take (i := 2) (by kernel_rfl) (by kernel_rfl) (by kernel_rfl) (by kernel_rfl) (by kernel_rfl) (fun _ => HS) ?_
            intro oi ho
            simp only [List.getElem?_toArray, List.getElem?_cons_succ, List.getElem?_cons_zero, Option.some.injEq] at ho
            subst ho
            refine ⟨?_, Or.inl ⟨by rfl, ?_⟩, fun _ _ _ h => h, ?_⟩
            rotate_left 1
            · intro W hW
              try (subst hW)
              try dsimp only at hW
              go_simp
              try with_reducible rfl
            try simp only [Act.put, List.setIfInBounds_toArray, List.set_cons_zero, List.set_cons_succ]
            refine wpT.take (i := 3) (by kernel_rfl) (by kernel_rfl) (by kernel_rfl) (by kernel_rfl) (by kernel_rfl) (fun _ => HS) ?_
            intro oi ho
            simp only [List.getElem?_toArray, List.getElem?_cons_succ, List.getElem?_cons_zero, Option.some.injEq] at ho
            subst ho
            refine ⟨?_, Or.inl ⟨by rfl, ?_⟩, fun _ _ _ h => h, ?_⟩
            rotate_left 1
            · intro W hW
              try (subst hW)
              try dsimp only at hW
              go_simp
              try with_reducible rfl
            try simp only [Act.put, List.setIfInBounds_toArray, List.set_cons_zero, List.set_cons_succ]
            refine wpT.take (i := 4) (by kernel_rfl) (by kernel_rfl) (by kernel_rfl) (by kernel_rfl) (by kernel_rfl) (fun _ => HS) ?_
            intro oi ho
            simp only [List.getElem?_toArray, List.getElem?_cons_succ, List.getElem?_cons_zero, Option.some.injEq] at ho
            subst ho
            refine ⟨?_, Or.inl ⟨by rfl, ?_⟩, fun _ _ _ h => h, ?_⟩
            rotate_left 1
            · intro W hW
              try (subst hW)
              try dsimp only at hW
              go_simp
              try with_reducible rfl
            try simp only [Act.put, List.setIfInBounds_toArray, List.set_cons_zero, List.set_cons_succ]
            refine wpT.take (i := 5) (by kernel_rfl) (by kernel_rfl) (by kernel_rfl) (by kernel_rfl) (by kernel_rfl) (fun _ => HS) ?_
            intro oi ho
            simp only [List.getElem?_toArray, List.getElem?_cons_succ, List.getElem?_cons_zero, Option.some.injEq] at ho
            subst ho
            refine ⟨?_, Or.inl ⟨by rfl, ?_⟩, fun _ _ _ h => h, ?_⟩
            rotate_left 1
            · intro W hW
              try (subst hW)
              try dsimp only at hW
              go_simp
              try with_reducible rfl
            try simp only [Act.put, List.setIfInBounds_toArray, List.set_cons_zero, List.set_cons_succ]
            refine wpT.one (i := 6) (by kernel_rfl) ?_
            intro oi ho
            simp only [List.getElem?_toArray, List.getElem?_cons_succ, List.getElem?_cons_zero, Option.some.injEq] at ho
            subst ho
            intro K' hK
            have HK := Lib.hid hK
            clear hK
            go_simp
            refine HK.out _ _ (fun _ => FC.out _ ((Below.refl _ w3).alloc (Nat.le_refl _) _)) ?_
            try simp only [Act.put, List.setIfInBounds_toArray, List.set_cons_zero, List.set_cons_succ]
            refine wpT.one (i := 7) (by kernel_rfl) ?_
            intro oi ho
            simp only [List.getElem?_toArray, List.getElem?_cons_succ, List.getElem?_cons_zero, Option.some.injEq] at ho
            subst ho
            intro K' hK
            have HK := Lib.hid hK
            clear hK
            have HXJ : Hid (chE.is (fun _ => False) w3 [.int .i64 (v : Nat), .int .i64 (r1.1 : Nat), .int .i64 (r2.1 : Nat)] (v, r1.1, r2.1)) := Lib.hid rfl
            refine step_app (by rfl) (.tmp 75) (.tmp 77) 42 (by rfl) chE S5.out 1 rfl (x := (v, r1.1, r2.1)) (q := fun _ => False) (p' := fun _ => False) HXJ.out Try.underlying42 gi gz0 gz1 gz2 (by rfl) (by rfl) (by rfl) (by rfl) (by unfold maxLen; omega) (by omega) (by have := HZ.out; omega) (by omega) (fun bb h1 h2 h3 => by simp only [bFacts, fsnoc, offs, offAll, Fct.box, Fct.fmap, Fct.keepB, and_true]; exact ⟨by omega, by omega, by omega, fun h => h.2.2.2.2 h1⟩) (fun bb h => False.elim h) (fun bb h => h.elim id id) ?_
            intro gg cap w8 S8 hs8 hgg hat8
            have hgg2 : bk + 3 ≤ gg := by
              rcases hat8 with h7 | h7
              · exact (HOF.out _ h7).1
              · have := HZ.out; omega
            refine HK.out _ _ (fun h => absurd h (by decide)) ?_
            try simp only [Act.put, List.setIfInBounds_toArray, List.set_cons_zero, List.set_cons_succ]
            refine wpT.one (i := 8) (by kernel_rfl) ?_
            intro oi ho
            simp only [List.getElem?_toArray, List.getElem?_cons_succ, List.getElem?_cons_zero, Option.some.injEq] at ho
            subst ho
            intro K' hK
            have HK := Lib.hid hK
            clear hK
            go_simp
            refine HK.out _ _ (fun h => absurd h (by decide)) ?_
            try simp only [Act.put, List.setIfInBounds_toArray, List.set_cons_zero, List.set_cons_succ]
            refine wpT.one (i := 9) (by kernel_rfl) ?_
            intro oi ho
            simp only [List.getElem?_toArray, List.getElem?_cons_succ, List.getElem?_cons_zero, Option.some.injEq] at ho
            subst ho
            intro K' hK
            have HK := Lib.hid hK
            clear hK
            go_simp
            refine HK.out _ _ (fun h => absurd h (by decide)) ?_
            obtain ⟨y2, y3⟩ := S8.cell 0 0 rfl rfl
            have hly := S8.lt 0 rfl
            try simp only [Act.put, List.setIfInBounds_toArray, List.set_cons_zero, List.set_cons_succ]
            refine wpT.one (i := 10) (by kernel_rfl) ?_
            intro oi ho
            simp only [List.getElem?_toArray, List.getElem?_cons_succ, List.getElem?_cons_zero, Option.some.injEq] at ho
            subst ho
            intro K' hK
            have HK := Lib.hid hK
            clear hK
            go_simp
            have S9 := Lib.hid (S8.setC 0 rfl 0 (.slice (some ⟨gg, 0, none⟩) (r2.2.cs.length + 1) cap) (by omega) (by simp only [bFacts, fsnoc, fset, offs, offAll, Fct.owns, Fct.box, Fct.fmap, Fct.keepB, and_true]; refine ⟨fun h => ?_, by omega, by omega, fun h => h.2.2.2.1 rfl⟩; rcases h with h | h; simp [Value.ownBlock] at h; omega; exact h))
            refine HK.out _ _ (fun h => absurd h (by decide)) ?_
            try simp only [Act.put, List.setIfInBounds_toArray, List.set_cons_zero, List.set_cons_succ]
            refine wpT.done (by kernel_rfl) ?_
            clear y2 y3 hly S8 HS
            have hs9 : w3.heap.size ≤ w8.heap.size := by omega
            have HZ9 := Lib.hid (And.intro hs9 hgg)
            refine St.genX S9.out (z := w8.heap.size) (by simp) ?_
            intro w9 z9 S10
            clear S9
            have HXF := Lib.hid (show boxAt bk o2 bc (.agg #[.int .i64 (v : Nat), .int .i64 (r1.1 : Nat), .int .i64 (r2.1 : Nat)]) w9 from ⟨(S10.keepB 4 rfl bc (heap_lt HXE.out.1) (by have := HXE.out.2.1; omega) (by have := HXE.out.2.1; omega) (by have := HXE.out.2.1; omega) HXE.out.2.2).trans HXE.out.1, HXE.out.2⟩)
            have y2 := (S10.cell 0 0 rfl rfl).1
            clear hs9 hgg hs8
            go_upto_region 14 with fail
            clear y2
            have S11 := Lib.hid S10.drew
            have y3 := (S10.drew.cell 0 1 rfl rfl).1
            obtain ⟨⟨x0, _⟩, ⟨x2, _⟩, ⟨x4, _⟩, _⟩ := (show boxAt bk o2 bc (.agg #[.int .i64 (v : Nat), .int .i64 (r1.1 : Nat), .int .i64 (r2.1 : Nat)]) w9.drew from HXF.out).three
            obtain ⟨w12, hrun, hm12, hg12⟩ := (S10.drew.fmap 2 (k := 72) (e := 3) rfl).store (t := 83) keyedC Try.underlying83 Try.underlying3 (by have := HB.out.nk; unfold maxLen; omega) (keyOf_C HOKC.out) (v := ((r2.2.cs.length + 2 : Nat) : Int)) (wf_small (by omega))
            simp only [valC] at hrun
            rw [show ((r2.2.cs.length + 2 : Nat) : Int) = (r2.2.cs.length : Int) + 1 + 1 from rfl] at hrun
            refine wpT_region [6] (fun W => W = w9.drew) (by kernel_rfl) ?_
            have HS : w9.drew = w9.drew := rfl
            try simp only [Act.put, List.setIfInBounds_toArray, List.set_cons_zero, List.set_cons_succ]
            refine wpT.take (i := 0) (by kernel_rfl) (by kernel_rfl) (by kernel_rfl) (by kernel_rfl) (by kernel_rfl) (fun _ => HS) ?_
            intro oi ho
            simp only [List.getElem?_toArray, List.getElem?_cons_succ, List.getElem?_cons_zero, Option.some.injEq] at ho
            subst ho
            refine ⟨?_, Or.inl ⟨by rfl, ?_⟩, fun _ _ _ h => h, ?_⟩
            rotate_left 1
            · intro W hW
              try (subst hW)
              try dsimp only at hW
              go_simp
              try with_reducible rfl
            try simp only [Act.put, List.setIfInBounds_toArray, List.set_cons_zero, List.set_cons_succ]
            refine wpT.take (i := 1) (by kernel_rfl) (by kernel_rfl) (by kernel_rfl) (by kernel_rfl) (by kernel_rfl) (fun _ => HS) ?_
            intro oi ho
            simp only [List.getElem?_toArray, List.getElem?_cons_succ, List.getElem?_cons_zero, Option.some.injEq] at ho
            subst ho
            refine ⟨?_, Or.inl ⟨by rfl, ?_⟩, fun _ _ _ h => h, ?_⟩
            rotate_left 1
            · intro W hW
              try (subst hW)
              try dsimp only at hW
              go_simp
              try with_reducible rfl
            try simp only [Act.put, List.setIfInBounds_toArray, List.set_cons_zero, List.set_cons_succ]
            refine wpT.take (i := 2) (by kernel_rfl) (by kernel_rfl) (by kernel_rfl) (by kernel_rfl) (by kernel_rfl) (fun _ => HS) ?_
            intro oi ho
            simp only [List.getElem?_toArray, List.getElem?_cons_succ, List.getElem?_cons_zero, Option.some.injEq] at ho
            subst ho
            refine ⟨?_, Or.inl ⟨by rfl, ?_⟩, fun _ _ _ h => h, ?_⟩
            rotate_left 1
            · intro W hW
              try (subst hW)
              try dsimp only at hW
              go_simp
              try with_reducible rfl
            try simp only [Act.put, List.setIfInBounds_toArray, List.set_cons_zero, List.set_cons_succ]
            refine wpT.take (i := 3) (by kernel_rfl) (by kernel_rfl) (by kernel_rfl) (by kernel_rfl) (by kernel_rfl) (fun _ => HS) ?_
            intro oi ho
            simp only [List.getElem?_toArray, List.getElem?_cons_succ, List.getElem?_cons_zero, Option.some.injEq] at ho
            subst ho
            refine ⟨?_, Or.inl ⟨by rfl, ?_⟩, fun _ _ _ h => h, ?_⟩
            rotate_left 1
            · intro W hW
              try (subst hW)
              try dsimp only at hW
              go_simp
              try with_reducible rfl
            try simp only [Act.put, List.setIfInBounds_toArray, List.set_cons_zero, List.set_cons_succ]
            refine wpT.take (i := 4) (by kernel_rfl) (by kernel_rfl) (by kernel_rfl) (by kernel_rfl) (by kernel_rfl) (fun _ => HS) ?_
            intro oi ho
            simp only [List.getElem?_toArray, List.getElem?_cons_succ, List.getElem?_cons_zero, Option.some.injEq] at ho
            subst ho
            refine ⟨?_, Or.inl ⟨by rfl, ?_⟩, fun _ _ _ h => h, ?_⟩
            rotate_left 1
            · intro W hW
              try (subst hW)
              try dsimp only at hW
              go_simp
              try with_reducible rfl
            try simp only [Act.put, List.setIfInBounds_toArray, List.set_cons_zero, List.set_cons_succ]
            refine wpT.take (i := 5) (by kernel_rfl) (by kernel_rfl) (by kernel_rfl) (by kernel_rfl) (by kernel_rfl) (fun _ => HS) ?_
            intro oi ho
            simp only [List.getElem?_toArray, List.getElem?_cons_succ, List.getElem?_cons_zero, Option.some.injEq] at ho
            subst ho
            refine ⟨?_, Or.inl ⟨by rfl, ?_⟩, fun _ _ _ h => h, ?_⟩
            rotate_left 1
            · intro W hW
              try (subst hW)
              try dsimp only at hW
              go_simp
              try with_reducible rfl
            try simp only [Act.put, List.setIfInBounds_toArray, List.set_cons_zero, List.set_cons_succ]
            refine wpT.one (i := 6) (by kernel_rfl) ?_
            intro oi ho
            simp only [List.getElem?_toArray, List.getElem?_cons_succ, List.getElem?_cons_zero, Option.some.injEq] at ho
            subst ho
            intro K' hK
            have HK := Lib.hid hK
            clear hK
            go_simp
            refine HK.out _ _ (fun h => absurd h (by decide)) ?_
            try simp only [Act.put, List.setIfInBounds_toArray, List.set_cons_zero, List.set_cons_succ]
            refine wpT.done (by kernel_rfl) ?_
            have S12 := Lib.hid (S10.drew.turn 2 (F' := .fmap 72 3 bk (nk2 + 1) (fput fk2 (keyC (v, r1.1, r2.1)) ((r2.2.cs.length + 2 : Nat) : Int))) rfl (fun c h => h) hm12 hg12 (by omega) (by simp only [bFacts, fsnoc, fset, offs, offAll, Fct.owns, Fct.box, Fct.fmap, Fct.keepB, and_true]; refine ⟨by omega, fun h => ?_, by omega, fun h => h.2.1 rfl⟩; rcases h with h | h; simp [Value.ownBlock] at h; omega; exact h))
            have hz12 : w3.heap.size ≤ w12.heap.size := by have h1 := HZ9.out.1; have h2 := hg12.size; simp at h2; omega
            clear hrun hm12 hg12 y3 x0 x2 x4 HS S10
            go_wp2_with fail
            go_meet
            case rel =>
              rw [HE.out]
              have B4 : BAt w0 bk 1 o2 nk2 ns2 ⟨r2.2.cs ++ [(v, r1.1, r2.1)], r2.2.seen⟩ w3 w12 (.slice (some ⟨gg, 0, none⟩) (r2.2.cs.length + 1) cap) (nk2 + 1) ns2 (fput fk2 (keyC (v, r1.1, r2.1)) ((r2.2.cs.length + 2 : Nat) : Int)) fs2 :=
                ⟨S12.out.pick [0, 1, 2, 3], HBE.out.ki.put HOKC.out HIN.out, HBE.out.ei, by omega, by omega, S12.out.keepB 4 rfl, hz12, fun b e => by
                  simp [Value.ownBlock] at e
                  subst e
                  rcases hat8 with h7 | h7
                  · exact .inl h7
                  · exact .inr (by omega)⟩
              have B5 := HBE.out.trans B4
              rw [show m - 1 + (m - 1) + 1 = m + m - 1 by omega] at B5
              exact ⟨_, _, _, _, _, rfl, B5, by have := HBD.out.ns; omega⟩
      case rest =>
        clear HB HX x0 x2 x4
        obtain ⟨o3, nk3, ns3, fk3, fs3, rfl, hB3, hns3⟩ := hcut
        obtain ⟨r, hr⟩ : ∃ r, r = nodeB (h + 1) t v s := ⟨_, rfl⟩
        have HB3 := Lib.hid hB3
        rw [← hr] at HB3 NOK ⊢
        have HSE := Lib.hid (show r.2.seen = (t, r.1) :: r2.2.seen by
          rw [hr, nodeB, HSL.out]
          simp only [← HM.out, ← HR.out.1, ← HR.out.2]
          by_cases heq : r1.1 = r2.1
          · rw [if_pos heq]
          · rw [if_neg heq]
            cases hx : r2.2.cs.idxOf? (v, r1.1, r2.1) <;> rfl)
        have HRQ := Lib.hid hr
        clear hr hB3
        obtain ⟨id, hid⟩ : ∃ z, z = r.1 := ⟨_, rfl⟩
        have HID := Lib.hid hid
        have hidl : id ≤ 1000 := by have h1 := NOK.out.lt; have h2 := NOK.out.len; rw [hpw0, ← HM.out] at h2; omega
        rw [← hid]
        clear hid
        go_upto_region 15 with fail
        have S1 := Lib.hid (HB3.out.st.drew.add (.keepB bk o3 wc.drew) (keepB.refl _ _ _))
        have y2 := (HB3.out.st.drew.cell 0 2 rfl).1
        have hcv := conv_S q (some ⟨tb, toff, none⟩) t cp wc.drew (HROW.out.kept HB3.out.st.drew.bel) (by have := HT.out.1; omega)
        rw [← HT.out.1] at hcv
        obtain ⟨w12, hrun, hm12, hg12⟩ := (HB3.out.st.drew.fmap 3 (k := 9) (e := 3) rfl).store (t := 84) keyedS Try.underlying84 Try.underlying3 (by have := HB3.out.ns; unfold maxLen; omega) (keyOf_S (t := t) (by have := HT.out.1; omega)) (v := (id : Int)) (wf_small (by omega))
        refine wpT_region [7] (fun W => W = wc.drew) (by kernel_rfl) ?_
        have HS : wc.drew = wc.drew := rfl
        try simp only [Act.put, List.setIfInBounds_toArray, List.set_cons_zero, List.set_cons_succ]
        refine wpT.take (i := 0) (by kernel_rfl) (by kernel_rfl) (by kernel_rfl) (by kernel_rfl) (by kernel_rfl) (fun _ => HS) ?_
        intro oi ho
        simp only [List.getElem?_toArray, List.getElem?_cons_succ, List.getElem?_cons_zero, Option.some.injEq] at ho
        subst ho
        refine ⟨?_, Or.inl ⟨by rfl, ?_⟩, fun _ _ _ h => h, ?_⟩
        rotate_left 1
        · intro W hW
          try (subst hW)
          try dsimp only at hW
          go_simp
          try with_reducible rfl
        try simp only [Act.put, List.setIfInBounds_toArray, List.set_cons_zero, List.set_cons_succ]
        refine wpT.take (i := 1) (by kernel_rfl) (by kernel_rfl) (by kernel_rfl) (by kernel_rfl) (by kernel_rfl) (fun _ => HS) ?_
        intro oi ho
        simp only [List.getElem?_toArray, List.getElem?_cons_succ, List.getElem?_cons_zero, Option.some.injEq] at ho
        subst ho
        refine ⟨?_, Or.inl ⟨by rfl, ?_⟩, fun _ _ _ h => h, ?_⟩
        rotate_left 1
        · intro W hW
          try (subst hW)
          try dsimp only at hW
          go_simp
          try with_reducible rfl
        try simp only [Act.put, List.setIfInBounds_toArray, List.set_cons_zero, List.set_cons_succ]
        refine wpT.take (i := 2) (by kernel_rfl) (by kernel_rfl) (by kernel_rfl) (by kernel_rfl) (by kernel_rfl) (fun _ => HS) ?_
        intro oi ho
        simp only [List.getElem?_toArray, List.getElem?_cons_succ, List.getElem?_cons_zero, Option.some.injEq] at ho
        subst ho
        refine ⟨?_, Or.inl ⟨by rfl, ?_⟩, fun _ _ _ h => h, ?_⟩
        rotate_left 1
        · intro W hW
          try (subst hW)
          try dsimp only at hW
          go_simp
          try with_reducible rfl
        try simp only [Act.put, List.setIfInBounds_toArray, List.set_cons_zero, List.set_cons_succ]
        refine wpT.take (i := 3) (by kernel_rfl) (by kernel_rfl) (by kernel_rfl) (by kernel_rfl) (by kernel_rfl) (fun _ => HS) ?_
        intro oi ho
        simp only [List.getElem?_toArray, List.getElem?_cons_succ, List.getElem?_cons_zero, Option.some.injEq] at ho
        subst ho
        refine ⟨?_, Or.inl ⟨by rfl, ?_⟩, fun _ _ _ h => h, ?_⟩
        rotate_left 1
        · intro W hW
          try (subst hW)
          try dsimp only at hW
          go_simp
          try with_reducible rfl
        try simp only [Act.put, List.setIfInBounds_toArray, List.set_cons_zero, List.set_cons_succ]
        refine wpT.take (i := 4) (by kernel_rfl) (by kernel_rfl) (by kernel_rfl) (by kernel_rfl) (by kernel_rfl) (fun _ => HS) ?_
        intro oi ho
        simp only [List.getElem?_toArray, List.getElem?_cons_succ, List.getElem?_cons_zero, Option.some.injEq] at ho
        subst ho
        refine ⟨?_, Or.inl ⟨by rfl, ?_⟩, fun _ _ _ h => h, ?_⟩
        rotate_left 1
        · intro W hW
          try (subst hW)
          try dsimp only at hW
          go_simp
          try with_reducible rfl
        try simp only [Act.put, List.setIfInBounds_toArray, List.set_cons_zero, List.set_cons_succ]
        refine wpT.take (i := 5) (by kernel_rfl) (by kernel_rfl) (by kernel_rfl) (by kernel_rfl) (by kernel_rfl) (fun _ => HS) ?_
        intro oi ho
        simp only [List.getElem?_toArray, List.getElem?_cons_succ, List.getElem?_cons_zero, Option.some.injEq] at ho
        subst ho
        refine ⟨?_, Or.inl ⟨by rfl, ?_⟩, fun _ _ _ h => h, ?_⟩
        rotate_left 1
        · intro W hW
          try (subst hW)
          try dsimp only at hW
          go_simp
          try with_reducible rfl
        try simp only [Act.put, List.setIfInBounds_toArray, List.set_cons_zero, List.set_cons_succ]
        refine wpT.take (i := 6) (by kernel_rfl) (by kernel_rfl) (by kernel_rfl) (by kernel_rfl) (by kernel_rfl) (fun _ => HS) ?_
        intro oi ho
        simp only [List.getElem?_toArray, List.getElem?_cons_succ, List.getElem?_cons_zero, Option.some.injEq] at ho
        subst ho
        refine ⟨?_, Or.inl ⟨by rfl, ?_⟩, fun _ _ _ h => h, ?_⟩
        rotate_left 1
        · intro W hW
          try (subst hW)
          try dsimp only at hW
          go_simp
          try with_reducible rfl
        try simp only [Act.put, List.setIfInBounds_toArray, List.set_cons_zero, List.set_cons_succ]
        refine wpT.one (i := 7) (by kernel_rfl) ?_
        intro oi ho
        simp only [List.getElem?_toArray, List.getElem?_cons_succ, List.getElem?_cons_zero, Option.some.injEq] at ho
        subst ho
        intro K' hK
        have HK := Lib.hid hK
        clear hK
        go_simp
        refine HK.out _ _ (fun h => absurd h (by decide)) ?_
        try simp only [Act.put, List.setIfInBounds_toArray, List.set_cons_zero, List.set_cons_succ]
        refine wpT.done (by kernel_rfl) ?_
        have S12 := Lib.hid (S1.out.turn 3 (F' := .fmap 9 3 (bk + 1) (ns3 + 1) (fput fs3 (keyS t) (id : Int))) rfl (fun c h => h) hm12 hg12 (by omega) (by have ho := HB3.out.off; simp only [bFacts, fsnoc, fset, offs, offAll, Fct.owns, Fct.box, Fct.fmap, Fct.keepB, and_true]; refine ⟨by omega, fun h => ?_, by omega, fun h => h.2.2.1 rfl⟩; rcases h with h | h; have := (ho _ h).1; omega; exact h))
        have hz12 : wc.heap.size ≤ w12.heap.size := by have h2 := hg12.size; simp at h2; omega
        clear hrun hm12 hg12 y2 hcv HS
        go_wp2_with fail
        go_ret
        have B4 : BAt w0 bk 0 o3 nk3 ns3 ⟨r.2.cs, r2.2.seen⟩ wc wc.drew o3 nk3 ns3 fk3 fs3 := BAt.start HB3.out.st.drew HB3.out.ki HB3.out.ei (Below.refl _ wc).drew
        rw [← HRQ.out]
        refine ⟨o3, nk3, ns3 + 1, fk3, fput fs3 (keyS t) (id : Int), ret_int (by rw [HID.out]), S12.out.pick [0, 1, 2, 3], HB3.out.ki, by rw [HSE.out, ← HID.out]; exact HB3.out.ei.put H01.out id, by have := HB3.out.nk; omega, by omega, HB3.out.keep.trans (S12.out.keepB 4 rfl) HB3.out.size HB3.out.own, by have := HB3.out.size; omega, HB3.out.own⟩
end Go.Proofs.Ytacaakcpkgipfaa
