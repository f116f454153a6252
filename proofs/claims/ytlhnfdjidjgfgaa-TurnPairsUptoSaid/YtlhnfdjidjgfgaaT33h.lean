/-
  Rows of pairs written in place; one variable taken out of a list of pairs, and of what is solved, place by place.
  Small laws on append where the other slice may be nil.
-/
import Derived.Test.YtlhnfdjidjgfgaaPb3
import Derived.Test.YtlhnfdjidjgfgaaMo
import Derived.Test.YtlhnfdjidjgfgaaNk3
import Derived.Test.YtlhnfdjidjgfgaaMx
import Derived.Test.YtlhnfdjidjgfgaaProg
import Derived.Test.YtlhnfdjidjgfgaaBase
import Derived.Test.YtlhnfdjidjgfgaaXb
import Derived.Laws.AppendOwnNone
namespace Go.Proofs.Ytlhnfdjidjgfgaa
open Go.RowKit Go.Shelf
set_option linter.unusedVariables false
set_option maxHeartbeats 400000

theorem own_mono {α : Type} {E : Elt α} {p q : Nat → Prop} {B : Nat} {w : World} {o : Value} {xs : List α} (h : E.Own p B w o xs) (hpq : ∀ b, p b → q b) : E.Own q B w o xs := by
  obtain ⟨css, hcl, ho, hk⟩ := h
  exact ⟨css, hcl, ho, fun i cs x h1 h2 => E.keep (fun b hb _ => ⟨rfl, hpq b hb.1, hb.2⟩) (hk i cs x h1 h2)⟩
theorem own_pair {ty : TypeId} {p : Nat → Prop} {B : Nat} {w : World} {g n cap : Nat} {xs : List (T × T)} (h : (pairE ty).Own p B w (.slice (some ⟨g, 0, none⟩) n cap) xs) {i : Nat} {f : T × T} (hi : xs[i]? = some f) :
    ∃ k sp k2 sp2, (w.cell? ⟨g, i * 4, none⟩ = some (.int .i64 f.1.head) ∧ w.cell? ⟨g, i * 4 + 1, none⟩ = some (.slice k f.1.kids.length (f.1.kids.length + sp)) ∧
      w.cell? ⟨g, i * 4 + 2, none⟩ = some (.int .i64 f.2.head) ∧ w.cell? ⟨g, i * 4 + 3, none⟩ = some (.slice k2 f.2.kids.length (f.2.kids.length + sp2))) ∧
      (w.frozen? ⟨g, i * 4, none⟩ = false ∧ w.frozen? ⟨g, i * 4 + 1, none⟩ = false ∧ w.frozen? ⟨g, i * 4 + 2, none⟩ = false ∧ w.frozen? ⟨g, i * 4 + 3, none⟩ = false) ∧
      TreeP (fun b => p b ∧ b ≠ g) w (.agg #[.int .i64 f.1.head, .slice k f.1.kids.length (f.1.kids.length + sp)]) f.1 ∧ TreeP (fun b => p b ∧ b ≠ g) w (.agg #[.int .i64 f.2.head, .slice k2 f.2.kids.length (f.2.kids.length + sp2)]) f.2 := by
  obtain ⟨css, hcl, ho, hk⟩ := h
  have hlt := (List.getElem?_eq_some_iff.1 hi).1
  obtain rfl : n = xs.length := by
    rcases ho.2 with ⟨h1, h2⟩ | ⟨gg, cap, cur, h, _⟩
    · simp at h1
    · simp only [Value.slice.injEq] at h; exact h.2.1
  have ho : w.ownsRow B ty 4 (.slice (some ⟨g, 0, none⟩) xs.length cap) xs.length css.flatten := ho
  have hcs : css[i]? = some css[i] := List.getElem?_eq_getElem (by omega)
  obtain ⟨k, sp, k2, sp2, e, h1, h2⟩ := hk i _ f hcs hi
  have hln := Elt.lens hcl hk
  have hfl : css.flatten.length = xs.length * 4 := by rw [flat_length hln, hcl]; rfl
  have hat : ∀ j u, [Value.int .i64 f.1.head, .slice k f.1.kids.length (f.1.kids.length + sp), .int .i64 f.2.head, .slice k2 f.2.kids.length (f.2.kids.length + sp2)][j]? = some u → w.cell? ⟨g, i * 4 + j, none⟩ = some u := fun j u hu => by
    have h3 := flat_at hln hcs (j := j) (u := u) (by rw [e]; exact hu)
    have h4 : i * 4 + j < css.flatten.length := (List.getElem?_eq_some_iff.1 h3).1
    rw [ho.cellAt (i * 4 + j) (by omega)]
    exact h3
  have hne : ∀ b, (p b ∧ (Value.slice (some ⟨g, 0, none⟩) xs.length cap).ownBlock ≠ some b) → p b ∧ b ≠ g := fun b hb => ⟨hb.1, fun e => hb.2 (by rw [e]; rfl)⟩
  exact ⟨k, sp, k2, sp2, ⟨hat 0 _ rfl, hat 1 _ rfl, hat 2 _ rfl, hat 3 _ rfl⟩, ⟨ho.frozenAt _, ho.frozenAt _, ho.frozenAt _, ho.frozenAt _⟩, h1.mono (fun b hb _ => hne b hb), h2.mono (fun b hb _ => hne b hb)⟩
theorem own_addr {ty : TypeId} {p : Nat → Prop} {B : Nat} {w : World} {av : Option Addr} {n ac : Nat} {xs : List (T × T)} (h : (pairE ty).Own p B w (.slice av n ac) xs) (hx : xs ≠ []) : ∃ g, av = some ⟨g, 0, none⟩ ∧ B ≤ g ∧ g < w.heap.size ∧ n ≤ ac := by
  obtain ⟨css, hcl, ho, hk⟩ := h
  rcases ho.2 with ⟨h1, h2⟩ | ⟨gg, cap, cur, h, hB, hh, hnc, _⟩
  · exact absurd (List.eq_nil_of_length_eq_zero h2) hx
  · simp only [Value.slice.injEq] at h
    obtain ⟨rfl, rfl, rfl⟩ := h
    exact ⟨gg, rfl, hB, heap_lt hh, hnc⟩
theorem St.pset' {w0 w : World} {l : List Fct} (S : St w0 w l) (i : Nat) {ty : TypeId} {B : Nat} {p : Nat → Prop} {g cap n : Nat} {xs : List (T × T)} (hi : Fct.at l i = Fct.owns (pairE ty) B p (.slice (some ⟨g, 0, none⟩) n cap) xs) (hn : n = xs.length) {j : Nat} (hj : j < xs.length) {f : T × T} {k k2 : Option Addr} {sp sp2 : Nat}
    (h1 : TreeP (fun b => p b ∧ b ≠ g) w (.agg #[.int .i64 f.1.head, .slice k f.1.kids.length (f.1.kids.length + sp)]) f.1) (h2 : TreeP (fun b => p b ∧ b ≠ g) w (.agg #[.int .i64 f.2.head, .slice k2 f.2.kids.length (f.2.kids.length + sp2)]) f.2)
    (h0 : w0.heap.size ≤ g) (hoff : offs g i l) :
    St w0 ((((w.setCell ⟨g, j * 4, Option.none⟩ (.int .i64 f.1.head)).setCell ⟨g, j * 4 + 1, Option.none⟩ (.slice k f.1.kids.length (f.1.kids.length + sp))).setCell ⟨g, j * 4 + 2, Option.none⟩ (.int .i64 f.2.head)).setCell ⟨g, j * 4 + 3, Option.none⟩ (.slice k2 f.2.kids.length (f.2.kids.length + sp2)))
      (fset l i (.owns (pairE ty) B p (.slice (some ⟨g, 0, Option.none⟩) n cap) (xs.set j f))) := by
  subst hn; exact S.pset i hi hj h1 h2 h0 hoff
theorem list_put {α : Type} (f : α → α) : ∀ (l : List α) (k : Nat) (h : k < l.length), ((l.take k).map f ++ l.drop k).set k (f l[k]) = (l.take (k + 1)).map f ++ l.drop (k + 1)
  | x :: r, 0, h => by simp
  | x :: r, k + 1, h => by
    have := list_put f r k (by simpa using h)
    simpa using this
theorem list_put' {α : Type} (f : α → α) (l : List α) (k : Nat) (h : k < l.length) {e : α} (he : l[k] = e) : ((l.take k).map f ++ l.drop k).set k (f e) = (l.take (k + 1)).map f ++ l.drop (k + 1) := he ▸ list_put f l k h
theorem list_at {α : Type} (f : α → α) (l : List α) (k : Nat) (h : k < l.length) : ((l.take k).map f ++ l.drop k)[k]? = some l[k] := by
  rw [List.getElem?_append_right (by simp; omega)]
  simp only [List.length_map, List.length_take, List.getElem?_drop]
  rw [show k + (k - min k l.length) = k by omega]
  exact List.getElem?_eq_getElem h
theorem list_len {α : Type} (f : α → α) (l : List α) (k : Nat) : l.length = ((l.take k).map f ++ l.drop k).length := by simp; omega
/-- the document's out is a replacing -/
theorem outT_inst {x : Nat} {X t : T} (hX : X = vT x) (u : T) : LV u → outT X.head t u = u.inst (upd x t) := by
  subst hX
  induction u using T.ind with
  | h u ih =>
    intro hl
    rw [outT_eq]
    by_cases hn : u.head < 0
    · rw [inst_var hn]
      have h1 := hl.leaf hn
      by_cases e : u.head = (vT x).head
      · rw [if_pos e]
        have : vI u = x := by unfold vI; rw [e, vT_head]; omega
        rw [this, upd_self]
      · rw [if_neg e]
        have : vI u ≠ x := fun h => e (by rw [h1, h])
        rw [upd_other t this]
        have h2 := hl u (self_pre u) hn
        conv => rhs; rw [← h1]
        rw [h2]
        conv => rhs; rw [← T.node_eta u, h2]
        rfl
    · rw [if_neg (by rw [vT_head]; omega), inst_node hn]
      congr 1
      have key : ∀ ks : List T, (∀ i, i < ks.length → outT (vT x).head t (gK ks i) = (gK ks i).inst (upd x t)) → outL (vT x).head t ks = instL (upd x t) ks := by
        intro ks
        induction ks with
        | nil => intro _; rfl
        | cons k r ihr =>
          intro h
          have h0 : outT (vT x).head t k = k.inst (upd x t) := h 0 (by simp)
          simp only [outL, instL]
          rw [h0, ihr (fun i hi => h (i + 1) (by simpa using hi))]
      exact key u.kids (fun i hi => ih i hi (hl.kid hi))
/-- a pair with the variable out -/
abbrev subP (x : Nat) (Y : T) (e : T × T) : T × T := (e.1.inst (upd x Y), e.2.inst (upd x Y))
/-- what stands for the first k variables has been turned -/
noncomputable def bsK (σ σ' : Nat → T) (x k : Nat) (i : Nat) : T := if i < k ∧ i ≠ x then bnd σ' i else bnd σ i
theorem bsK_zero (σ σ' : Nat → T) (x : Nat) : bsK σ σ' x 0 = bnd σ := by funext i; unfold bsK; rw [if_neg (by omega)]
theorem Goes.keepsFree {N : Nat} {A B : T} {l : List (T × T)} {σ : Nat → T} {x : Nat} {t : T} (h : Goes N A B l σ x t) (hne : t ≠ vT x) (hlv : ∀ y, LV (σ y)) (hlow : ∀ x y, σ x = vT y → y ≤ x) {y : Nat} (hk' : (σ y).inst (upd x t) = vT y) : σ y = vT y := by
  have hn : (σ y).head < 0 := Classical.byContradiction fun hn => by
    rw [inst_node hn] at hk'
    have := congrArg T.head hk'
    rw [vT_head] at this
    have h2 : (σ y).head = -(y : Int) - 1 := this
    omega
  have h1 := (hlv y).leaf hn
  have h2 := hlow y _ h1
  rw [inst_var hn] at hk'
  by_cases hj : vI (σ y) = x
  · rw [hj, upd_self] at hk'
    have h3 := h.ord (by rw [hk']; exact vT_neg y)
    rcases h3 with h3 | h3
    · rw [hk', vI_vT] at h3; omega
    · exact absurd h3 hne
  · rw [upd_other t hj] at hk'
    exact h1.trans hk'
theorem Goes.bnd {N : Nat} {A B : T} {l : List (T × T)} {σ : Nat → T} {x : Nat} {t : T} (h : Goes N A B l σ x t) (hne : t ≠ vT x) (hlv : ∀ y, LV (σ y)) (hlow : ∀ x y, σ x = vT y → y ≤ x) (i : Nat) :
    (i = x → bnd σ i = zeroT ∧ bnd (fun y => (σ y).inst (upd x t)) i = t) ∧ (i ≠ x → σ i = vT i → bnd (fun y => (σ y).inst (upd x t)) i = bnd σ i) ∧ (i ≠ x → σ i ≠ vT i → bnd σ i = σ i ∧ bnd (fun y => (σ y).inst (upd x t)) i = (σ i).inst (upd x t)) := by
  refine ⟨fun e => ?_, fun e h1 => ?_, fun e h1 => ?_⟩
  · subst e
    have e1 : (σ i).inst (upd i t) = t := by rw [h.free, vT_inst, upd_self]
    exact ⟨if_pos h.free, by unfold Go.Proofs.Ytlhnfdjidjgfgaa.bnd; rw [if_neg (by show ¬ (σ i).inst (upd i t) = vT i; rw [e1]; exact hne)]; exact e1⟩
  · have e1 : (σ i).inst (upd x t) = vT i := by rw [h1, vT_inst, upd_other t e]
    unfold Go.Proofs.Ytlhnfdjidjgfgaa.bnd
    rw [if_pos e1, if_pos h1]
  · unfold Go.Proofs.Ytlhnfdjidjgfgaa.bnd
    exact ⟨if_neg h1, if_neg (fun h2 => h1 (h.keepsFree hne hlv hlow h2))⟩
theorem Goes.bnd' {N : Nat} {A B : T} {l : List (T × T)} {σ σ' : Nat → T} {x : Nat} {t : T} (h : Goes N A B l σ x t) (hne : t ≠ vT x) (hlv : ∀ y, LV (σ y)) (hlow : ∀ x y, σ x = vT y → y ≤ x) (hσ : σ' = fun y => (σ y).inst (upd x t)) (i : Nat) :
    (i = x → Go.Proofs.Ytlhnfdjidjgfgaa.bnd σ i = zeroT ∧ Go.Proofs.Ytlhnfdjidjgfgaa.bnd σ' i = t) ∧ (i ≠ x → σ i = vT i → Go.Proofs.Ytlhnfdjidjgfgaa.bnd σ' i = Go.Proofs.Ytlhnfdjidjgfgaa.bnd σ i) ∧ (i ≠ x → σ i ≠ vT i → Go.Proofs.Ytlhnfdjidjgfgaa.bnd σ i = σ i ∧ Go.Proofs.Ytlhnfdjidjgfgaa.bnd σ' i = (σ i).inst (upd x t)) := by
  subst hσ; exact h.bnd hne hlv hlow i
theorem bsK_skip {σ σ' : Nat → T} {x k : Nat} (h : k = x ∨ bnd σ' k = bnd σ k) : bsK σ σ' x (k + 1) = bsK σ σ' x k := by
  funext i; unfold bsK
  by_cases e : i = k
  · subst e
    rcases h with h | h
    · rw [if_neg (by omega), if_neg (by omega)]
    · by_cases e2 : i = x
      · rw [if_neg (by omega), if_neg (by omega)]
      · rw [if_pos (by omega), if_neg (by omega), h]
  · by_cases h1 : i < k ∧ i ≠ x
    · rw [if_pos h1, if_pos (by omega)]
    · rw [if_neg h1, if_neg (by omega)]
theorem bsK_put {σ σ' : Nat → T} {x k : Nat} (h : k ≠ x) : setT (bsK σ σ' x k) k (bnd σ' k) = bsK σ σ' x (k + 1) := by
  funext i; unfold setT bsK
  by_cases e : i = k
  · subst e; rw [if_pos rfl, if_pos (by omega)]
  · rw [if_neg e]
    by_cases h1 : i < k ∧ i ≠ x
    · rw [if_pos h1, if_pos (by omega)]
    · rw [if_neg h1, if_neg (by omega)]
theorem bsK_at (σ σ' : Nat → T) (x k : Nat) : bsK σ σ' x k k = bnd σ k := by unfold bsK; rw [if_neg (by omega)]
/-- what the pair in order says of the step -/
structure Stp (N : Nat) (A B : T) (n : Nat) (l : List (T × T)) (σ : Nat → T) (r : Nat × (Nat → T)) (x : Nat) (X Y : T) : Prop where
  go : Goes N A B l σ x Y
  hX : X = vT x
  ne : Y ≠ vT x
  occ : Y.has x → r = (0, σ)
  eli : ¬ Y.has x → ¬ 4000 < Y.size → mrun n (l.map fun e => (e.1.inst (upd x Y), e.2.inst (upd x Y))) (fun y => (σ y).inst (upd x Y)) = some r
  ms : ¬ Y.has x → MS N A B (l.map fun e => (e.1.inst (upd x Y), e.2.inst (upd x Y))) (fun y => (σ y).inst (upd x Y))
  size : Y.size ≤ 205891132094649
  tms : ∀ (j : Nat) e, l[j]? = some e → Tm N (A.pre ++ B.pre) σ e.1 ∧ Tm N (A.pre ++ B.pre) σ e.2
  head : X.head = -(x : Int) - 1
  has : Y.has x ↔ 0 < Y.times X.head
theorem stp_of {N : Nat} {A B : T} {n : Nat} {l : List (T × T)} {a b : T} {σ : Nat → T} {r : Nat × (Nat → T)} {X Y : T} (hz : NZ A B) (hs : Sml A B) (hM : MS N A B (l ++ [(a, b)]) σ) (h : mrun (n + 1) (l ++ [(a, b)]) σ = some r) (hab : a ≠ b) (hp : ¬ (0 < a.head ∧ 0 < b.head)) (hXY : X = (pick a b).1 ∧ Y = (pick a b).2) :
    Stp N A B n l σ r (vI X) X Y := by
  obtain ⟨rfl, rfl⟩ := hXY
  obtain ⟨s1, s2, s3, _⟩ := hM.mg.step hz hab hp
  have hh : (pick a b).1.head = -((vI (pick a b).1 : Nat) : Int) - 1 := by conv => lhs; rw [s1, vT_head]
  exact ⟨s2, s1, s3, mr_occ h hab hp, mr_elim h hab hp, hM.step hz hab hp, MS.tsize (l := l) hs s2.tm, fun j e he => s2.tms e (List.mem_of_getElem? he), hh, by unfold T.has; rw [← hh]⟩
end Go.Proofs.Ytlhnfdjidjgfgaa
namespace Go.Proofs.Ytlhnfdjidjgfgaa
open Go.RowKit Go.Shelf
set_option linter.unusedVariables false
set_option maxHeartbeats 400000

/-- append to a row of the call's own, the other slice nil or not -/
theorem wpList_append_own_any {P : Program} {w : World} {ops : Array Oper} {rest : List Oper} {o : Oper} {a : Act} {Q : Exit → Act → World → Prop} (hgd : o.guard = none) (s x : Operand) (t : TypeId)
    (ho : o.op = .call { callee := .builtin .append, args := #[s, x], argTypes := #[t, t] })
    (base : Nat) (e : TypeId) (i : TypeInfo) (z : Value) (size bytes : Nat) (ht : P.underlying t = some (.slice e)) (hi : P.info? e = some i) (hz : i.zero = some z)
    (hsize : i.size = size) (hby : i.bytes = bytes) (hzs : z.cells.size = size) (hsz : 0 < size)
    (v : Value) (n : Nat) (xs : List Value) (hs : a.eval s = v) (hown : w.ownsRow base e size v n xs)
    (xo : Option Addr) (m c : Nat) (news : List Value) (hx : a.eval x = .slice xo m c) (hnone : xo = none → m = 0 ∧ c = 0) (hl : news.length = m * size) (hnews : ∀ ad, xo = some ad → ∀ j u, news[j]? = some u → w.cell? (ad.add j) = some u) (h1 : ∀ u ∈ news, u.oneCell' = true)
    (h63 : n + m ≤ maxLen) (hbytes : (n + m) * bytes ≤ 140737488355328) (hbase : base ≤ w.heap.size)
    (h : ∀ v' w', w'.ownsRow base e size v' (n + m) (xs ++ news) → w.grownBy w' v.ownBlock → wpList P ops Q rest (a.put o.dst v') w') : wpList P ops Q (o :: rest) a w := by
  cases xo with
  | some ad => exact wpList_append_own w hgd s x t ho base e i z size bytes ht hi hz hsize hby hzs hsz v n xs hs hown ad m c news hx hl (hnews ad rfl) h1 h63 hbytes hbase fun v' w' h2 h3 _ => h v' w' h2 h3
  | none =>
    obtain ⟨rfl, rfl⟩ := hnone rfl
    obtain rfl : news = [] := List.eq_nil_of_length_eq_zero (by simpa using hl)
    exact wpList_append_own_none hgd s x t ho base e i size ht hi v n xs hs hown hx (h v w (by simpa using hown) (World.grownBy.refl _ _))
end Go.Proofs.Ytlhnfdjidjgfgaa
