/-
  The four calls of Critical's region 26 as contracts with one footprint.
  Small lemmas for the tail of Critical's round: the size of a renumbered tree, Tree with its answer named, the normed pair carried.
-/
import Derived.Test.YtlhnfdjidjgfgaaCp3
import Derived.Test.YtlhnfdjidjgfgaaT35
import Derived.Test.YtlhnfdjidjgfgaaE8
import Derived.Test.YtlhnfdjidjgfgaaE80
namespace Go.Proofs.Ytlhnfdjidjgfgaa
open Go.RowKit Go.Shelf
set_option linter.unusedVariables false
set_option maxHeartbeats 400000

/-- a tree anywhere in the world, its two cells in hand -/
def TreeN (w : World) (k : Option Addr) (sp : Nat) (t : T) : Prop := TreeP (fun b => b < w.heap.size) w (.agg #[.int .i64 t.head, .slice k t.kids.length (t.kids.length + sp)]) t
theorem TreeN.kept {w w' : World} {k : Option Addr} {sp : Nat} {t : T} (h : TreeN w k sp t) (hb : Below w.heap.size w w') : TreeN w' k sp t :=
  (TreeP.kept hb h).mono (fun b h h2 => h2)
theorem laidC (s t : T) (place : List Int) (k k2 : Option Addr) (sp sp2 : Nat) (po : Option Addr) (pc : Nat) (w : World) (ht : TreeN w k sp t) (hs : TreeN w k2 sp2 s)
    (hat : CellsAt w po place.length (fun j => .int .i64 (gI place j))) (h1 : place.length ≤ pc) (h3 : t.size ≤ 100000000) (h4 : ∀ z ∈ place, 1 ≤ z ∧ z ≤ 100000000) :
    Calls Try.prog 104 #[.agg #[.int .i64 t.head, .slice k t.kids.length (t.kids.length + sp)], .slice po place.length pc, .agg #[.int .i64 s.head, .slice k2 s.kids.length (s.kids.length + sp2)]] w fun e w' =>
      ∃ k' sp', e = .returned (.agg #[.int .i64 (T.withAt place t s).head, .slice k' (T.withAt place t s).kids.length ((T.withAt place t s).kids.length + sp')]) ∧ TreeN w' k' sp' (T.withAt place t s) ∧ Below w.heap.size w w' := by
  refine (laid33 s place t _ _ po pc _ w (fun b h => h) ht hs hat h1 h3 h4).mono ?_
  rintro e w' ⟨u, rfl, hu, hb⟩
  obtain ⟨k', sp', rfl⟩ := hu.at.form
  exact ⟨k', sp', rfl, hu.mono (fun b h h2 => h2), hb⟩
theorem withC (bs : List T) (t : T) (k : Option Addr) (sp : Nat) (bo : Option Addr) (bc : Nat) (w : World) (hl : bs.length ≤ 1000) (ht : TreeN w k sp t) (hb : RowP (fun b => b < w.heap.size) w bo bs) (hw : t.low) (hz : t.size ≤ 100000000) :
    Calls Try.prog 60 #[.agg #[.int .i64 t.head, .slice k t.kids.length (t.kids.length + sp)], .slice bo bs.length bc] w fun e w' =>
      ∃ k' sp', e = .returned (.agg #[.int .i64 (t.sub bs).head, .slice k' (t.sub bs).kids.length ((t.sub bs).kids.length + sp')]) ∧ TreeN w' k' sp' (t.sub bs) ∧ Below w.heap.size w w' := by
  refine (with19 bs t _ _ bo bc w (fun b h => h) hl ht hb hw hz).mono ?_
  rintro e w' ⟨u, rfl, hu, hb⟩
  obtain ⟨k', sp', rfl⟩ := hu.at.form
  exact ⟨k', sp', rfl, hu.mono (fun b h h2 => h2), hb⟩
/-- the fact behind block g -/
def FactN (w : World) (g : Nat) (k k2 : Option Addr) (sp sp2 : Nat) (P Q : T) : Prop :=
  w.cell? ⟨g, 0, none⟩ = some (.bool false) ∧ w.cell? ⟨g, 1, none⟩ = some (.int .i64 P.head) ∧ w.cell? ⟨g, 2, none⟩ = some (.slice k P.kids.length (P.kids.length + sp)) ∧
  w.cell? ⟨g, 3, none⟩ = some (.int .i64 Q.head) ∧ w.cell? ⟨g, 4, none⟩ = some (.slice k2 Q.kids.length (Q.kids.length + sp2))
theorem normC (P Q : T) (k k2 : Option Addr) (sp sp2 : Nat) (g : Nat) (w : World) (hg : g < w.heap.size) (hf : FactN w g k k2 sp sp2 P Q) (hP : TreeN w k sp P) (hQ : TreeN w k2 sp2 Q) (hs : P.size ≤ 10000 ∧ Q.size ≤ 10000) :
    Calls Try.prog 50 #[.agg #[.slice (some ⟨g, 0, none⟩) 1 1]] w fun e w' =>
      ∃ n off rsp k' sp' k2' sp2', e = .returned (.agg #[.slice (some ⟨n, off, none⟩) 1 (1 + rsp)]) ∧ w.heap.size ≤ n ∧ n < w'.heap.size ∧
        w'.cell? ⟨n, off + 1, none⟩ = some (.int .i64 (npair P Q).1.head) ∧ w'.cell? ⟨n, off + 2, none⟩ = some (.slice k' (npair P Q).1.kids.length ((npair P Q).1.kids.length + sp')) ∧
        w'.cell? ⟨n, off + 3, none⟩ = some (.int .i64 (npair P Q).2.head) ∧ w'.cell? ⟨n, off + 4, none⟩ = some (.slice k2' (npair P Q).2.kids.length ((npair P Q).2.kids.length + sp2')) ∧
        TreeP (fun b => w.heap.size ≤ b) w' (.agg #[.int .i64 (npair P Q).1.head, .slice k' (npair P Q).1.kids.length ((npair P Q).1.kids.length + sp')]) (npair P Q).1 ∧
        TreeP (fun b => w.heap.size ≤ b) w' (.agg #[.int .i64 (npair P Q).2.head, .slice k2' (npair P Q).2.kids.length ((npair P Q).2.kids.length + sp2')]) (npair P Q).2 ∧ Below w.heap.size w w' := by
  have hR : factE.Row (fun b => b < w.heap.size) w (some ⟨g, 0, none⟩) [⟨false, P, Q⟩] := fun i x hi => by
    cases i with
    | zero =>
      cases hi
      refine ⟨g, 0, _, rfl, hg, fun j u hu => ?_, k, sp, k2, sp2, rfl, hP, hQ⟩
      obtain ⟨c0, c1, c2, c3, c4⟩ := hf
      match j with
      | 0 => cases hu; exact c0
      | 1 => cases hu; exact c1
      | 2 => cases hu; exact c2
      | 3 => cases hu; exact c3
      | 4 => cases hu; exact c4
      | j + 5 => simp at hu
    | succ i => simp at hi
  have h := norm21 [⟨false, P, Q⟩] (fun b => b < w.heap.size) (some ⟨g, 0, none⟩) 0 w hR (by simp) (fun b h => h) (fun i t hi => by
    have h2 : (treesF [(⟨false, P, Q⟩ : Fc)]) = [P, Q] := rfl
    rw [h2] at hi
    rcases List.mem_cons.1 (List.mem_of_getElem? hi) with rfl | hi
    · exact hs.1
    · rw [List.mem_singleton.1 hi]; exact hs.2)
  refine Calls.mono h ?_
  rw [npair_norm]
  rintro e w' ⟨ro, rsp, rfl, hr, hb⟩
  obtain ⟨n, off, k', sp', k2', sp2', rfl, hn, _, c1, c2, c3, c4, t1, t2⟩ := hr.fact (i := 0) (by simp)
  exact ⟨n, off, rsp, k', sp', k2', sp2', rfl, hn, block_lt_of_cell c1, by simpa using c1, by simpa using c2, by simpa using c3, by simpa using c4, t1, t2, hb⟩
theorem FactN.kept {w w' : World} {g : Nat} {k k2 : Option Addr} {sp sp2 : Nat} {P Q : T} (h : FactN w g k k2 sp sp2 P Q) (hb : Below w.heap.size w w') : FactN w' g k k2 sp sp2 P Q :=
  ⟨Below.cellOf hb h.1, Below.cellOf hb h.2.1, Below.cellOf hb h.2.2.1, Below.cellOf hb h.2.2.2.1, Below.cellOf hb h.2.2.2.2⟩
/-- the normed pair behind block n, apart from block x -/
def NormN (s : Nat) (w : World) (n off : Nat) (k1 k2 : Option Addr) (s1 s2 : Nat) (R : T × T) (x : Nat) : Prop :=
  s ≤ n ∧ n ≠ x ∧ w.cell? ⟨n, off + 1, none⟩ = some (.int .i64 R.1.head) ∧ w.cell? ⟨n, off + 2, none⟩ = some (.slice k1 R.1.kids.length (R.1.kids.length + s1)) ∧
  w.cell? ⟨n, off + 3, none⟩ = some (.int .i64 R.2.head) ∧ w.cell? ⟨n, off + 4, none⟩ = some (.slice k2 R.2.kids.length (R.2.kids.length + s2)) ∧
  TreeP (fun b => s ≤ b ∧ b ≠ x) w (.agg #[.int .i64 R.1.head, .slice k1 R.1.kids.length (R.1.kids.length + s1)]) R.1 ∧ TreeP (fun b => s ≤ b ∧ b ≠ x) w (.agg #[.int .i64 R.2.head, .slice k2 R.2.kids.length (R.2.kids.length + s2)]) R.2
theorem normN_alloc {s : Nat} {w : World} {n off : Nat} {k1 k2 : Option Addr} {s1 s2 : Nat} {R : T × T} {x : Nat} (h : NormN s w n off k1 k2 s1 s2 R w.heap.size) (hx : x = w.heap.size) (o : Obj) : NormN s (w.alloc o) n off k1 k2 s1 s2 R x := by
  subst hx
  have hb : Below w.heap.size w (w.alloc o) := (Below.refl _ w).alloc (Nat.le_refl _) o
  exact ⟨h.1, h.2.1, Below.cellOf hb h.2.2.1, Below.cellOf hb h.2.2.2.1, Below.cellOf hb h.2.2.2.2.1, Below.cellOf hb h.2.2.2.2.2.1, TreeP.kept hb h.2.2.2.2.2.2.1, TreeP.kept hb h.2.2.2.2.2.2.2⟩
theorem normN_store {s : Nat} {w : World} {n off : Nat} {k1 k2 : Option Addr} {s1 s2 : Nat} {R : T × T} {x : Nat} (h : NormN s w n off k1 k2 s1 s2 R x) (u : Value) : NormN s (w.setCell ⟨x, 0, none⟩ u) n off k1 k2 s1 s2 R x := by
  have hk : ∀ q, q ≠ x → (w.setCell ⟨x, 0, none⟩ u).heap[q]? = w.heap[q]? := fun q hq => Below.heap_setCell _ _ _ _ hq
  have hc : ∀ {j v}, w.cell? ⟨n, j, none⟩ = some v → (w.setCell ⟨x, 0, none⟩ u).cell? ⟨n, j, none⟩ = some v := fun hv => (World.cell?_of_block (hk n h.2.1)).trans hv
  exact ⟨h.1, h.2.1, hc h.2.2.1, hc h.2.2.2.1, hc h.2.2.2.2.1, hc h.2.2.2.2.2.1, h.2.2.2.2.2.2.1.carry (fun q hq hl => hk q hq.2), h.2.2.2.2.2.2.2.carry (fun q hq hl => hk q hq.2)⟩
end Go.Proofs.Ytlhnfdjidjgfgaa
namespace Go.Proofs.Ytlhnfdjidjgfgaa
open Go.RowKit Go.Shelf
set_option linter.unusedVariables false
set_option maxHeartbeats 400000

theorem renum_size (l : List Int) (t : T) : (t.renum l).size = t.size := by
  induction t using T.ind with
  | h t ih =>
    rw [T.renum_eq, T.size_eq, T.size_eq t]
    congr 1
    show sizeL (renumL l t.kids) = sizeL t.kids
    have key : ∀ ks : List T, (∀ i, i < ks.length → ((gK ks i).renum l).size = (gK ks i).size) → sizeL (renumL l ks) = sizeL ks := by
      intro ks
      induction ks with
      | nil => intro _; rfl
      | cons k r ihr =>
        intro h
        have h0 : (k.renum l).size = k.size := h 0 (by simp)
        simp only [renumL, sizeL]
        rw [h0, ihr (fun i hi => h (i + 1) (by simpa using hi))]
    exact key t.kids ih
theorem npair_size {P Q : T} (h : P.size ≤ 10000 ∧ Q.size ≤ 10000) : (npair P Q).1.size ≤ 1000000 ∧ (npair P Q).2.size ≤ 1000000 := by
  unfold npair
  dsimp only
  rw [renum_size, renum_size]
  omega
theorem tree18n (t : T) (v : Value) (w : World) (hs : t.size ≤ 1000000) (ht : TreeAt w v t) :
    Calls Try.prog 32 #[v] w fun e w' => ∃ c d, e = .returned (.agg #[.int .i64 c, .int .i64 d]) ∧ Hid (treeF t = (c, d)) ∧ Below w.heap.size w w' :=
  (tree18 t v w hs ht).mono fun e w' ⟨h, hb⟩ => ⟨(treeF t).1, (treeF t).2, h, Lib.hid rfl, hb⟩
theorem NormN.kept {s : Nat} {w w' : World} {n off : Nat} {k1 k2 : Option Addr} {s1 s2 : Nat} {R : T × T} {x : Nat} (h : NormN s w n off k1 k2 s1 s2 R x) (hb : Below w.heap.size w w') : NormN s w' n off k1 k2 s1 s2 R x :=
  ⟨h.1, h.2.1, Below.cellOf hb h.2.2.1, Below.cellOf hb h.2.2.2.1, Below.cellOf hb h.2.2.2.2.1, Below.cellOf hb h.2.2.2.2.2.1, TreeP.kept hb h.2.2.2.2.2.2.1, TreeP.kept hb h.2.2.2.2.2.2.2⟩
theorem withCn (bs : List T) (n : Nat) (hn : bs.length = n) (t : T) (k : Option Addr) (sp : Nat) (bo : Option Addr) (bc : Nat) (w : World) (hl : n ≤ 1000) (ht : TreeN w k sp t) (hb : RowP (fun b => b < w.heap.size) w bo bs) (hw : t.low) (hz : t.size ≤ 100000000) :
    Calls Try.prog 60 #[.agg #[.int .i64 t.head, .slice k t.kids.length (t.kids.length + sp)], .slice bo n bc] w fun e w' =>
      ∃ k' sp', e = .returned (.agg #[.int .i64 (t.sub bs).head, .slice k' (t.sub bs).kids.length ((t.sub bs).kids.length + sp')]) ∧ TreeN w' k' sp' (t.sub bs) ∧ Below w.heap.size w w' := by
  subst hn
  exact withC bs t k sp bo bc w hl ht hb hw hz
end Go.Proofs.Ytlhnfdjidjgfgaa
