/-
  Is a claim true under every row of things: plain; the closure.
-/
import Derived.Test.YteekoclfpehnpaaProg
import Derived.Test.YteekoclfpehnpaaV3
import Derived.Test.YteekoclfpehnpaaV8
import Derived.RegionTactic
import Derived.Lib.QuietBelow
import Derived.BigQuiet
namespace Go.Proofs.Yteekoclfpehnpaa
open Go.RowKit Go.Shelf
set_option linter.unusedVariables false
set_option maxHeartbeats 400000

/-- the things of try number k -/
def dig (s : Nat) : Nat → Nat → List Int
  | 0, _ => []
  | n + 1, k => ((k % s : Nat) : Int) :: dig s n (k / s)
theorem dig_length {s : Nat} : ∀ (n k : Nat), (dig s n k).length = n
  | 0, _ => rfl
  | n + 1, k => by rw [dig, List.length_cons, dig_length n]
theorem dig_ok {s : Nat} (hs : 1 ≤ s) : ∀ (n k : Nat), ThOK s (dig s n k)
  | 0, _ => fun x hx => by cases hx
  | n + 1, k => fun x hx => by
    rw [dig] at hx
    rcases List.mem_cons.1 hx with rfl | hx
    · have := Nat.mod_lt k (show 0 < s by omega); omega
    · exact dig_ok hs n _ x hx
/-- each row of things comes up -/
theorem dig_all {s : Nat} : ∀ {th : List Int}, ThOK s th → ∃ k, k < s ^ th.length ∧ dig s th.length k = th
  | [], _ => ⟨0, by simp, rfl⟩
  | x :: r, h => by
    obtain ⟨k, hk, he⟩ := dig_all (th := r) (fun y hy => h y (List.mem_cons_of_mem _ hy))
    obtain ⟨h0, h1⟩ := h x (List.mem_cons_self ..)
    have hs : 0 < s := by omega
    refine ⟨x.toNat + s * k, ?_, ?_⟩
    · rw [List.length_cons, Nat.pow_succ, Nat.mul_comm _ s]
      have h2 : s * (k + 1) ≤ s * s ^ r.length := Nat.mul_le_mul_left s hk
      rw [Nat.mul_add, Nat.mul_one] at h2
      omega
    · rw [List.length_cons, dig, Nat.add_mul_mod_self_left, Nat.mod_eq_of_lt (by omega), Nat.add_mul_div_left _ _ hs, Nat.div_eq_of_lt (by omega), Nat.zero_add, he]
      congr 1; omega
noncomputable def factB (s : Nat) (tb : List (List Int)) (th : List Int) (f : Fc) : Bool := (decide (f.l.ev s tb th = f.r.ev s tb th)) != f.neg
noncomputable def trueF (s : Nat) (tb : List (List Int)) (fs : List Fc) : Bool := (List.range (powN s 4096 (varsC fs) 1)).all fun k => fs.any (factB s tb (dig s (varsC fs) k))
def tc (th : List Int) : Array Value := (th.map (Value.int .i64)).toArray
theorem make27 (n : Nat) (hn : n ≤ 1000) (w : World) : (Instr.makeSlice 27 (.int .i64 (n : Int)) (.int .i64 (n : Int))).run Try.prog w = .ok (.slice (some ⟨w.heap.size, 0, none⟩) n n) (w.alloc (.cells (tc (List.replicate n 0)) 3)) := by
  obtain ⟨i3, gi, gz0, gz1, gz2⟩ := info_parts infoI
  have h := run_makeSlice (P := Try.prog) w 27 3 i3 (.int .i64 0) Try.underlying27 gi gz0 .i64 .i64 (n : Int) (n : Int) (by omega) (Int.le_refl _) (by rw [gz1]; simp; omega) (by rw [gz2]; omega) (by omega)
  rw [gz1] at h
  have e : madeCells (Value.int .i64 0).cells (n * 1) = tc (List.replicate n 0) := by
    unfold madeCells tc Value.cells
    apply Array.ext
    · simp
    · intro i h1 h2
      simp [Nat.mod_one]
  rw [← e]
  simpa using h
theorem tc_set {th : List Int} {j : Nat} {x : Int} : (tc th).setIfInBounds j (.int .i64 x) = tc (th.set j x) := by
  unfold tc
  rw [List.setIfInBounds_toArray, List.map_set]
theorem St.setAt {w0 w : World} {l : List Fct} (S : St w0 w l) (i : Nat) {b : Nat} {cs : Array Value} {T : TypeId} (hi : Fct.at l i = Fct.box b cs T) (j : Nat) (u : Value) (h0 : w0.heap.size ≤ b) (hoff : offs b i l) :
    St w0 (w.setCell ⟨b, j, none⟩ u) (fset l i (.box b (cs.setIfInBounds j u) T)) :=
  S.put i hi h0 hoff (fun h => h.setCell (p := ⟨b, j, none⟩) h0 _)
    (fun c hc => Below.heap_setCell _ _ _ _ hc) (fun h => by simp [World.setCell, Array.getElem?_modify, h])
theorem row_tc {p : Nat → Prop} {w : World} {g : Nat} {th : List Int} (hp : p g) (h : w.heap[g]? = some (.cells (tc th) 3 (0, 0))) : intE.Row p w (some ⟨g, 0, none⟩) th := fun i x hi => by
  refine ⟨g, 0, [.int .i64 x], rfl, hp, fun j u hu => ?_, rfl⟩
  rcases j with _ | j
  · simp at hu; subst hu
    simp [World.cell?, h, tc, intE, hi]
  · simp at hu

set_option maxRecDepth 100000 in
set_option maxHeartbeats 4000000 in
theorem true114 (ar : List Int) (s : Nat) (tb : List (List Int)) (th : List Int) (hT : TabOK ar s tb) (hth : ThOK s th) (hl : th.length ≤ 1000000000) (f : Fc) (hs1 : f.l.sig ar) (hs2 : f.r.sig ar) (p q r : Nat → Prop) (k k2 to_ tho : Option Addr) (sp sp2 ct c bt bs : Nat) (w : World)
    (h0 : w.heap[bt]? = some (.cells #[.int .i64 s, .slice to_ tb.length (tb.length + ct)] 41 (0, 0))) (h1 : w.heap[bs]? = some (.cells #[.slice tho th.length c] 27 (0, 0))) (hrow : intsE.Row r w to_ tb) (hthr : intE.Row q w tho th)
    (t1 : TreeP p w (.agg #[.int .i64 f.l.head, .slice k f.l.kids.length (f.l.kids.length + sp)]) f.l) (t2 : TreeP p w (.agg #[.int .i64 f.r.head, .slice k2 f.r.kids.length (f.r.kids.length + sp2)]) f.r) :
    Calls Try.prog 114 #[.agg #[.bool f.neg, .int .i64 f.l.head, .slice k f.l.kids.length (f.l.kids.length + sp), .int .i64 f.r.head, .slice k2 f.r.kids.length (f.r.kids.length + sp2)], .pointer (some ⟨bt, 0, none⟩), .pointer (some ⟨bs, 0, none⟩)] w fun e w' => e = .returned (.bool (factB s tb th f)) ∧ Below w.heap.size w w' := by
  have HR := Lib.hid hrow; have HH := Lib.hid hthr; have T1 := Lib.hid t1; have T2 := Lib.hid t2
  obtain ⟨bx, hbx⟩ : ∃ b, b = w.heap.size := ⟨_, rfl⟩
  have S1 := (((St.start w).add (.box bt #[.int .i64 s, .slice to_ tb.length (tb.length + ct)] 41) h0).add (.box bs #[.slice tho th.length c] 27) h1).box hbx.symm #[.bool f.neg, .int .i64 f.l.head, .slice k f.l.kids.length (f.l.kids.length + sp), .int .i64 f.r.head, .slice k2 f.r.kids.length (f.r.kids.length + sp2)] 54
  clear h0 h1 hrow hthr t1 t2
  go_enter Try.func114, Try.ntmps114
  go_wp2_with fail
  rw [← hbx]
  refine S1.genC (z := 0) (by omega) ?_
  intro w1 z1 S
  clear S1 hbx
  obtain ⟨⟨x0, _⟩, x1, _⟩ := S.two 0
  obtain ⟨y0, _⟩ := S.one 1
  obtain ⟨c0, _⟩ := S.cell 2 0 rfl
  obtain ⟨c1, _⟩ := S.cell 2 1 rfl
  obtain ⟨c2, _⟩ := S.cell 2 2 rfl
  obtain ⟨c3, _⟩ := S.cell 2 3 rfl
  obtain ⟨c4, _⟩ := S.cell 2 4 rfl
  have CA := Lib.hid (fun d os => Calls.regrown_of (eval76 ar s tb th hT hth hl f.l hs1 r q _ to_ tho ct c (Go.Sort.grow (redrawn w1 d) os) (HR.out.kept (S.regrown d os).bel) (HH.out.kept (S.regrown d os).bel) (T1.out.kept (S.regrown d os).bel).at))
  have CB := Lib.hid (fun d os => Calls.regrown_of (eval76 ar s tb th hT hth hl f.r hs2 r q _ to_ tho ct c (Go.Sort.grow (redrawn w1 d) os) (HR.out.kept (S.regrown d os).bel) (HH.out.kept (S.regrown d os).bel) (T2.out.kept (S.regrown d os).bel).at))
  obtain ⟨V, hV⟩ : ∃ V, V = f.l.ev s tb th := ⟨_, rfl⟩
  obtain ⟨U, hU⟩ : ∃ U, U = f.r.ev s tb th := ⟨_, rfl⟩
  rw [← hV] at CA
  rw [← hU] at CB
  have HW := Lib.hid (show factB s tb th f = ((V == U) != f.neg) by unfold factB; rw [hV, hU]; rfl)
  have r0 := cell_regrown x0; have r1 := cell_regrown x1; have r2 := cell_regrown y0
  have e0 := cell_regrown c0; have e1 := cell_regrown c1; have e2 := cell_regrown c2; have e3 := cell_regrown c3; have e4 := cell_regrown c4
  clear x0 x1 y0 c0 c1 c2 c3 c4 hV hU
  refine wp_region_quiet_below (by kernel_rfl) (by kernel_rfl) ?_
  repeat (go_big_quiet_step (first | with_reducible exact CA.out _ _ | with_reducible exact CB.out _ _))
  refine wpQuiet_nil ?_
  intro _ hw'
  obtain ⟨⟨dq, osq⟩, hw''⟩ := hw'
  subst hw''
  have SE := Lib.hid (S.regrown dq osq).bel
  clear r0 r1 r2 e0 e1 e2 e3 e4 CA CB S
  go_wp2_with fail
  go_ret
  exact ⟨ret_bool HW.out.symm, SE.out⟩
end Go.Proofs.Yteekoclfpehnpaa
