/-
  Walks: claim.SameFact; the function that trace.Once hands on.
-/
import Derived.Test.YtlhnfdjidjgfgaaProg
import Derived.Test.YtlhnfdjidjgfgaaE5
import Derived.Test.YtlhnfdjidjgfgaaXe
namespace Go.Proofs.Ytlhnfdjidjgfgaa
open Go.RowKit Go.Shelf
set_option linter.unusedVariables false
set_option maxHeartbeats 400000

set_option maxRecDepth 100000 in
set_option maxHeartbeats 4000000 in
theorem sameFact129 (f g : Fc) (k k2 j j2 : Option Addr) (sp sp2 sq sq2 : Nat) (w : World) (h1 : TreeAt w (.agg #[.int .i64 f.l.head, .slice k f.l.kids.length (f.l.kids.length + sp)]) f.l) (h2 : TreeAt w (.agg #[.int .i64 f.r.head, .slice k2 f.r.kids.length (f.r.kids.length + sp2)]) f.r)
    (h3 : TreeAt w (.agg #[.int .i64 g.l.head, .slice j g.l.kids.length (g.l.kids.length + sq)]) g.l) (h4 : TreeAt w (.agg #[.int .i64 g.r.head, .slice j2 g.r.kids.length (g.r.kids.length + sq2)]) g.r) :
    Calls Try.prog 129 #[.agg #[.bool f.neg, .int .i64 f.l.head, .slice k f.l.kids.length (f.l.kids.length + sp), .int .i64 f.r.head, .slice k2 f.r.kids.length (f.r.kids.length + sp2)],
      .agg #[.bool g.neg, .int .i64 g.l.head, .slice j g.l.kids.length (g.l.kids.length + sq), .int .i64 g.r.head, .slice j2 g.r.kids.length (g.r.kids.length + sq2)]] w fun e w' => e = .returned (.bool (decide (f = g))) ∧ Below w.heap.size w w' := by
  have H1 := Lib.hid h1; have H2 := Lib.hid h2; have H3 := Lib.hid h3; have H4 := Lib.hid h4
  clear h1 h2 h3 h4
  obtain ⟨bx, hbx⟩ : ∃ b, b = w.heap.size := ⟨_, rfl⟩
  have S := ((St.start w).box hbx.symm #[.bool f.neg, .int .i64 f.l.head, .slice k f.l.kids.length (f.l.kids.length + sp), .int .i64 f.r.head, .slice k2 f.r.kids.length (f.r.kids.length + sp2)] 62).box (b := bx + 1) (by simp [hbx]) #[.bool g.neg, .int .i64 g.l.head, .slice j g.l.kids.length (g.l.kids.length + sq), .int .i64 g.r.head, .slice j2 g.r.kids.length (g.r.kids.length + sq2)] 62
  by_cases hn : f.neg = g.neg
  · have hnb : (f.neg == g.neg) = true := by simp [hn]
    have HN := Lib.hid hn
    clear hn
    go_enter Try.func129, Try.ntmps129
    go_wp2_with fail
    refine S.gen (z := bx + 2) (by simp [hbx]) ?_
    intro w1 z1 S1
    clear S
    refine (S1.quiet (same68 f.l g.l _ _ w1 (H1.out.kept S1.bel) (H3.out.kept S1.bel))).mono ?_
    rintro e w2 ⟨rfl, z2, S2⟩
    clear S1
    cases hv : decide (f.l = g.l) with
    | false =>
      have HF := Lib.hid (show decide (f = g) = false from decide_eq_false (fun e => of_decide_eq_false hv (by rw [e])))
      have SE := Lib.hid S2.bel
      clear hv S2
      go_wp2_with fail
      go_ret
      exact ⟨ret_bool HF.out.symm, SE.out⟩
    | true =>
      have HL := Lib.hid (of_decide_eq_true hv)
      clear hv
      obtain ⟨x3, _⟩ := S2.cell 0 3 rfl
      obtain ⟨x4, _⟩ := S2.cell 0 4 rfl
      obtain ⟨y3, _⟩ := S2.cell 1 3 rfl
      obtain ⟨y4, _⟩ := S2.cell 1 4 rfl
      rw [hbx] at x3 x4 y3 y4
      go_wp2_with fail
      refine (S2.quiet (same68 f.r g.r _ _ w2 (H2.out.kept S2.bel) (H4.out.kept S2.bel))).mono ?_
      rintro e w3 ⟨rfl, z3, S3⟩
      have HV := Lib.hid (show decide (f.r = g.r) = decide (f = g) from decide_eq_decide.2 ⟨fun e => Fc.ext_of HN.out HL.out e, fun e => by rw [e]⟩)
      have SE := Lib.hid S3.bel
      clear S2 S3 x3 x4 y3 y4
      go_wp2_with fail
      go_ret
      exact ⟨ret_bool HV.out, SE.out⟩
  · have hnb : (f.neg == g.neg) = false := by simpa using hn
    have HF := Lib.hid (show decide (f = g) = false from decide_eq_false (fun e => hn (by rw [e])))
    have SE := Lib.hid S.bel
    clear hn S
    go_enter Try.func129, Try.ntmps129
    go_wp2_with fail
    go_ret
    exact ⟨ret_bool HF.out.symm, SE.out⟩

theorem boxF5' {w : World} {b : Nat} {v0 v1 v2 v3 v4 : Value} {T : TypeId} (h : w.heap[b]? = some (.cells #[v0, v1, v2, v3, v4] T (0, 0))) :
    w.cell? ⟨b, 0, none⟩ = some v0 ∧ w.cell? ⟨b, 1, none⟩ = some v1 ∧ w.cell? ⟨b, 2, none⟩ = some v2 ∧ w.cell? ⟨b, 3, none⟩ = some v3 ∧ w.cell? ⟨b, 4, none⟩ = some v4 := by
  simp [World.cell?, h]
set_option maxRecDepth 100000 in
set_option maxHeartbeats 4000000 in
/-- is it this fact? -/
theorem once143 (x f : Fc) (k k2 j j2 : Option Addr) (sp sp2 sq sq2 bf : Nat) (w : World) (h1 : TreeAt w (.agg #[.int .i64 x.l.head, .slice k x.l.kids.length (x.l.kids.length + sp)]) x.l) (h2 : TreeAt w (.agg #[.int .i64 x.r.head, .slice k2 x.r.kids.length (x.r.kids.length + sp2)]) x.r)
    (h3 : TreeAt w (.agg #[.int .i64 f.l.head, .slice j f.l.kids.length (f.l.kids.length + sq)]) f.l) (h4 : TreeAt w (.agg #[.int .i64 f.r.head, .slice j2 f.r.kids.length (f.r.kids.length + sq2)]) f.r)
    (hb : w.heap[bf]? = some (.cells #[.bool f.neg, .int .i64 f.l.head, .slice j f.l.kids.length (f.l.kids.length + sq), .int .i64 f.r.head, .slice j2 f.r.kids.length (f.r.kids.length + sq2)] 62 (0, 0))) :
    Calls Try.prog 143 #[.agg #[.bool x.neg, .int .i64 x.l.head, .slice k x.l.kids.length (x.l.kids.length + sp), .int .i64 x.r.head, .slice k2 x.r.kids.length (x.r.kids.length + sp2)], .pointer (some ⟨bf, 0, none⟩)] w fun e w' => e = .returned (.bool (decide (x = f))) ∧ Below w.heap.size w w' := by
  have H1 := Lib.hid h1; have H2 := Lib.hid h2; have H3 := Lib.hid h3; have H4 := Lib.hid h4
  obtain ⟨bx, hbx⟩ : ∃ b, b = w.heap.size := ⟨_, rfl⟩
  have S := (St.start w).box hbx.symm #[.bool x.neg, .int .i64 x.l.head, .slice k x.l.kids.length (x.l.kids.length + sp), .int .i64 x.r.head, .slice k2 x.r.kids.length (x.r.kids.length + sp2)] 62
  have hb' := (Below.block ((Below.refl w.heap.size w).alloc (Nat.le_refl _) (.cells #[.bool x.neg, .int .i64 x.l.head, .slice k x.l.kids.length (x.l.kids.length + sp), .int .i64 x.r.head, .slice k2 x.r.kids.length (x.r.kids.length + sp2)] 62)) _ (heap_lt hb)).trans hb
  obtain ⟨y0, y1, y2, y3, y4⟩ := boxF5' hb'
  clear h1 h2 h3 h4 hb hb'
  go_enter Try.func143, Try.ntmps143
  go_wp2_with fail
  refine S.gen (z := bx + 1) (by simp [hbx]) ?_
  intro w1 z1 S1
  clear S y0 y1 y2 y3 y4
  refine (S1.quiet (sameFact129 x f k k2 j j2 sp sp2 sq sq2 w1 (H1.out.kept S1.bel) (H2.out.kept S1.bel) (H3.out.kept S1.bel) (H4.out.kept S1.bel))).mono ?_
  rintro e w2 ⟨rfl, z2, S2⟩
  have SE := Lib.hid S2.bel
  clear S1 S2
  go_wp2_with fail
  go_ret
  exact ⟨rfl, SE.out⟩
end Go.Proofs.Ytlhnfdjidjgfgaa
