/-
  Walks: the document's Ints, Model and Tables.
  Walks: the document's Tables.
  Walks: the document's Numbered.
  Walks: the document's Found.
  Walks: slices.ContainsFunc over claims; the closure of the search.
  Plain laws: a table's cells in one row; the search over them.
  Walks: the search from a place on.
  Plain laws: what the search finds.
-/
import Derived.Test.YteekoclfpehnpaaProg
import Derived.Test.YteekoclfpehnpaaY1
import Derived.Test.YteekoclfpehnpaaZ7
import Derived.RegionTactic
import Derived.BigQuiet
import Derived.Test.YteekoclfpehnpaaZ1
import Derived.Test.YteekoclfpehnpaaV10
import Derived.Test.YteekoclfpehnpaaT33h
import Derived.Test.YteekoclfpehnpaaG2
import Derived.Test.YteekoclfpehnpaaSt3
import Derived.Deep.Cut
namespace Go.Proofs.Yteekoclfpehnpaa
open Go.RowKit Go.Shelf
set_option linter.unusedVariables false
set_option maxHeartbeats 400000

set_option maxRecDepth 100000 in
set_option maxHeartbeats 4000000 in
theorem ints56 (a b : List Int) (p q : Nat → Prop) (ao bo : Option Addr) (ca cb : Nat) (w : World) (ha : intE.Row p w ao a) (hb : intE.Row q w bo b) (hla : a.length ≤ 1000000000) (hlb : b.length ≤ 1000000000) :
    Calls Try.prog 56 #[.slice ao a.length ca, .slice bo b.length cb] w fun e w' => e = .returned (.bool (decide (a = b))) ∧ Below w.heap.size w w' := by
  have HA := Lib.hid ha; have HB := Lib.hid hb
  clear ha hb
  by_cases hne : a.length = b.length
  · have hnei : (a.length : Int) = (b.length : Int) := by omega
    have hneb : ((a.length : Int) != (b.length : Int)) = false := by simp [hnei]
    have HNE := Lib.hid hne
    clear hne hnei
    go_enter Try.func56, Try.ntmps56
    go_wp2_with fail
    go_loopw [5] (fun i wr => ∃ k : Nat, k ≤ a.length ∧ i = .int .i64 k ∧ (∀ (j : Nat), j < k → a[j]? = b[j]?) ∧ Below w.heap.size w wr) (fun i _ => a.length - (intOf i).toNat)
    case atStart => exact ⟨0, by omega, rfl, fun j hj => by omega, Below.refl _ _⟩
    case round =>
      obtain ⟨k, hk, rfl, heq, hbel⟩ := hrel
      have HEQ := Lib.hid heq
      have HBL := Lib.hid hbel
      clear heq hbel
      by_cases hlt : k < a.length
      · have hlti : (k : Int) < (a.length : Int) := by omega
        have hlt2 : k < b.length := by have := HNE.out; omega
        have hlti2 : (k : Int) < (b.length : Int) := by omega
        obtain ⟨ba, oa, rfl, _, c0⟩ := (HA.out.kept HBL.out).int hlt
        obtain ⟨bb, ob, rfl, _, d0⟩ := (HB.out.kept HBL.out).int hlt2
        obtain ⟨X, hX⟩ : ∃ X, X = a[k] := ⟨_, rfl⟩
        obtain ⟨Y, hY⟩ : ∃ Y, Y = b[k] := ⟨_, rfl⟩
        rw [← hX] at c0
        rw [← hY] at d0
        have HXK := Lib.hid (show a[k]? = some X by rw [hX]; exact List.getElem?_eq_getElem hlt)
        have HYK := Lib.hid (show b[k]? = some Y by rw [hY]; exact List.getElem?_eq_getElem hlt2)
        clear hX hY
        have r0 := cell_regrown c0; have r1 := cell_regrown d0
        go_wp2_with fail
        clear c0 d0
        refine wp_region_quiet_below (by kernel_rfl) (by kernel_rfl) ?_
        repeat (go_big_quiet_step (fail))
        refine wpQuiet_nil ?_
        intro _ hw'
        obtain ⟨⟨dq, osq⟩, hw''⟩ := hw'
        subst hw''
        have HBL2 := Lib.hid (Below.step HBL.out (below_regrown wr dq osq))
        clear r0 r1
        by_cases hXY : X = Y
        · have hXb : (X != Y) = false := by simp [hXY]
          have HEQ2 := Lib.hid (show ∀ (j : Nat), j < k + 1 → a[j]? = b[j]? from fun j hj => by
            rcases Nat.lt_succ_iff_lt_or_eq.1 hj with h | rfl
            · exact HEQ.out j h
            · rw [HXK.out, HYK.out, hXY])
          clear hXY
          go_wp2_with fail
          go_roundw
          case rel => exact ⟨k + 1, by omega, by go_num, HEQ2.out, HBL2.out⟩
          case measure => simp [intOf] <;> omega
        · have hXb : (X != Y) = true := by simpa using hXY
          have HF := Lib.hid (show decide (a = b) = false by
            rw [decide_eq_false_iff_not]
            intro e
            have h1 := HXK.out
            rw [e, HYK.out] at h1
            exact hXY (Option.some.inj h1).symm)
          clear hXY
          go_wp2_with fail
          go_ret
          exact ⟨ret_bool HF.out.symm, HBL2.out⟩
      · obtain rfl : k = a.length := by omega
        have HF := Lib.hid (show decide (a = b) = true by
          rw [decide_eq_true_iff]
          apply List.ext_getElem?
          intro j
          by_cases hj : j < a.length
          · exact HEQ.out j hj
          · rw [List.getElem?_eq_none (by omega), List.getElem?_eq_none (by have := HNE.out; omega)])
        go_wp2_with fail
        go_ret
        exact ⟨ret_bool HF.out.symm, HBL.out⟩
  · have hneb : ((a.length : Int) != (b.length : Int)) = true := by simp; omega
    have HF := Lib.hid (show decide (a = b) = false by
      rw [decide_eq_false_iff_not]
      intro e; exact hne (by rw [e]))
    clear hne
    go_enter Try.func56, Try.ntmps56
    go_wp2_with fail
    go_ret
    exact ⟨ret_bool HF.out.symm, Below.refl _ _⟩

/-- do all claims hold? -/
noncomputable def modelB (s : Nat) (tb : List (List Int)) (cs : List (List Fc)) : Bool := cs.all fun c => allF s tb c (varsC c) []
theorem all32Y {s : Nat} {tb : List (List Int)} {fs : List Fc} {X : Bool} (hX : allF s tb fs (varsC fs) [] = X) (ar : List Int) (hT : TabOK ar s tb) (hok : ∀ t ∈ treesF fs, t.sig ar) (hn : fs.length ≤ 1000000) (hvs : varsC fs ≤ 1000) (p r : Nat → Prop) (to_ co : Option Addr) (ct sp : Nat) (w : World) (hrow : intsE.Row r w to_ tb) (h : factE.Row p w co fs) :
    Calls Try.prog 32 #[.agg #[.int .i64 s, .slice to_ tb.length (tb.length + ct)], .agg #[.slice co fs.length (fs.length + sp)], .slice none 0 0, .int .i64 (varsC fs : Nat)] w fun e w' => e = .returned (.bool X) ∧ Below w.heap.size w w' := by
  have h := all32 ar s tb hT fs hok hn (varsC fs) hvs (varsC fs) [] (by simp) (fun x hx => by cases hx) p (fun _ => True) r to_ co none ct sp 0 w (fun _ => rfl) hrow h Elt.Row.nil
  rw [hX] at h
  exact h
theorem code_lowY {ar : List Int} {fs : List Fc} (h : codeF ar fs = 0) : ∀ t ∈ treesF fs, t.low := fun t ht => low_of_pre t (treeF_ok.1 ((codeF_zero.1 h).2 t ht).1).2.2
theorem code_varsY {ar : List Int} {fs : List Fc} (h : codeF ar fs = 0) : varsC fs ≤ 8 := by
  have := mostL_bound (l := treesF fs) (fun t ht => ((codeF_zero.1 h).2 t ht).1)
  rw [← varsC_cast] at this; omega
set_option maxRecDepth 100000 in
set_option maxHeartbeats 4000000 in
theorem model53 (ar : List Int) (cs : List (List Fc)) (s : Nat) (tb : List (List Int)) (hT : TabOK ar s tb) (hok : ∀ c ∈ cs, codeF ar c = 0) (p r : Nat → Prop) (co to_ : Option Addr) (av : Value) (cc ct : Nat) (w : World) (h : claimE.Row p w co cs) (ht : intsE.Row r w to_ tb) (hp : ∀ b, p b → b < w.heap.size) (hn : cs.length ≤ 1000000) (hf : ∀ (i : Nat) c, cs[i]? = some c → c.length ≤ 1000000) :
    Calls Try.prog 53 #[.agg #[av, .slice co cs.length cc], .agg #[.int .i64 s, .slice to_ tb.length (tb.length + ct)]] w fun e w' => e = .returned (.bool (modelB s tb cs)) ∧ Below w.heap.size w w' := by
  have HC := Lib.hid h; have HT := Lib.hid ht; have HP := Lib.hid hp; have HOK := Lib.hid hok; have HF := Lib.hid hf; have HTT := Lib.hid hT
  obtain ⟨bx, hbx⟩ : ∃ b, b = w.heap.size := ⟨_, rfl⟩
  have S1 := ((St.start w).box hbx.symm #[av, .slice co cs.length cc] 29).box (b := bx + 1) (by simp [hbx]) #[.int .i64 s, .slice to_ tb.length (tb.length + ct)] 41
  have hsz1 : ((w.alloc (.cells #[av, .slice co cs.length cc] 29)).alloc (.cells #[.int .i64 s, .slice to_ tb.length (tb.length + ct)] 41)).heap.size = bx + 2 := by simp [hbx]
  clear h ht hp hok hf hT
  go_enter Try.func53, Try.ntmps53
  go_wp2_with fail
  rw [← hbx]
  refine S1.genC (z := bx + 2) (by omega) ?_
  intro w1 z1 S
  have HBX := Lib.hid hbx
  clear S1 hbx hsz1
  go_loopw [5] (fun i wr => ∃ k : Nat, k ≤ cs.length ∧ i = .int .i64 k ∧ (∀ (j : Nat) y, j < k → cs[j]? = some y → allF s tb y (varsC y) [] = true) ∧ bx + 2 ≤ wr.heap.size ∧ St w wr [.box bx #[av, .slice co cs.length cc] 29, .box (bx + 1) #[.int .i64 s, .slice to_ tb.length (tb.length + ct)] 41]) (fun i _ => cs.length - (intOf i).toNat)
  case atStart => exact ⟨0, by omega, rfl, fun j y hj => by omega, z1, S⟩
  case round =>
    clear S
    obtain ⟨k, hk, rfl, hno, zh, Sh⟩ := hrel
    have HNO := Lib.hid hno
    clear hno
    obtain ⟨⟨x0, _⟩, x1, _⟩ := Sh.two 0
    by_cases hlt : k < cs.length
    · have hlti : (k : Int) < (cs.length : Int) := by omega
      obtain ⟨b, off, kc, sc, rfl, hpb, c0, h1, h2⟩ := (HC.out.kept Sh.bel).claim hlt
      obtain ⟨f, hf⟩ : ∃ f, f = cs[k] := ⟨_, rfl⟩
      have HFK := Lib.hid (show cs[k]? = some f by rw [hf]; exact List.getElem?_eq_getElem hlt)
      rw [← hf] at c0 h1 h2
      have HROW := Lib.hid h1
      have HCF := Lib.hid (HOK.out f (List.mem_of_getElem? HFK.out))
      clear hf h1 h2
      obtain ⟨X, hX⟩ : ∃ X, allF s tb f (varsC f) [] = X := ⟨_, rfl⟩
      have HX := Lib.hid hX
      have hn8 : varsC f ≤ 8 := code_varsY HCF.out
      have hsz := Sh.bel.size
      have CA := Lib.hid (fun d os => Calls.regrown_of (claimMost31 f p kc sc (Go.Sort.grow (redrawn wr d) os) (HROW.out.kept (below_regrown wr d os)) (HF.out k f HFK.out) (fun b hb => Nat.lt_of_lt_of_le (HP.out b hb) (Nat.le_trans hsz (below_regrown wr d os).size)) (code_lowY HCF.out)))
      have HTR := Lib.hid (HT.out.kept Sh.bel)
      have CB := Lib.hid (fun d os => Calls.regrown_of (all32Y hX ar HTT.out (fun t ht => ((codeF_zero.1 HCF.out).2 t ht).2) (HF.out k f HFK.out) (Nat.le_trans hn8 (by decide)) p r to_ kc ct sc (Go.Sort.grow (redrawn wr d) os) (HTR.out.kept (below_regrown wr d os)) (HROW.out.kept (below_regrown wr d os))))
      obtain ⟨⟨y0, _⟩, y1, _⟩ := Sh.two 1
      clear hn8 hsz hX
      have r0 := cell_regrown c0; have r1 := cell_regrown y0; have r2 := cell_regrown y1; have r3 := cell_regrown x1
      go_wp2_with fail
      clear x0 x1 y0 y1 c0
      refine wp_region_quiet_below (by kernel_rfl) (by kernel_rfl) ?_
      repeat (go_big_quiet_step (first | with_reducible exact CA.out _ _ | with_reducible exact CB.out _ _))
      refine wpQuiet_nil ?_
      intro _ hw'
      obtain ⟨⟨dq, osq⟩, hw''⟩ := hw'
      subst hw''
      refine (Sh.regrown dq osq).genX (z := bx + 2) (Nat.le_trans zh (below_regrown wr dq osq).size) ?_
      intro wi zi Si
      clear r0 r1 r2 r3 CA CB Sh
      cases X with
      | true =>
        have HNO2 := Lib.hid (show ∀ (j : Nat) y, j < k + 1 → cs[j]? = some y → allF s tb y (varsC y) [] = true from fun j y hj hy => by
          rcases Nat.lt_succ_iff_lt_or_eq.1 hj with h | rfl
          · exact HNO.out j y h hy
          · rw [HFK.out] at hy
            obtain rfl := Option.some.inj hy
            exact HX.out)
        go_wp2_with fail
        go_roundw
        case rel => exact ⟨k + 1, by omega, by go_num, HNO2.out, zi, Si⟩
        case measure => simp [intOf] <;> omega
      | false =>
        have HF := Lib.hid (show modelB s tb cs = false by
          rw [Bool.eq_false_iff]
          intro e
          have h1 := List.all_eq_true.1 e f (List.mem_of_getElem? HFK.out)
          rw [HX.out] at h1
          exact Bool.noConfusion h1)
        have SE := Lib.hid Si.bel
        clear Si
        go_wp2_with fail
        go_ret
        exact ⟨ret_bool HF.out.symm, SE.out⟩
    · obtain rfl : k = cs.length := by omega
      have HF := Lib.hid (show modelB s tb cs = true from List.all_eq_true.2 fun y hy => by
        obtain ⟨j, hj⟩ := List.mem_iff_getElem?.1 hy
        exact HNO.out j y (List.getElem?_eq_some_iff.1 hj).1 hj)
      have SE := Lib.hid Sh.bel
      clear Sh
      go_wp2_with fail
      go_ret
      exact ⟨ret_bool HF.out.symm, SE.out⟩
end Go.Proofs.Yteekoclfpehnpaa
namespace Go.Proofs.Yteekoclfpehnpaa
open Go.RowKit Go.Shelf
set_option linter.unusedVariables false
set_option maxHeartbeats 400000

/-- how many cells a table has -/
def cellTot (s : Nat) : List Int → Nat
  | [] => 0
  | a :: r => s ^ a.toNat + cellTot s r
def tabsN (s : Nat) (ar : List Int) : Nat := if s ^ cellTot s ar ≤ 100000 then s ^ cellTot s ar else 100000
theorem cellTot_take {s : Nat} : ∀ {ar : List Int} {k : Nat} {a : Int}, ar[k]? = some a → cellTot s (ar.take (k + 1)) = cellTot s (ar.take k) + s ^ a.toNat
  | [], k, a, h => by simp at h
  | x :: r, 0, a, h => by
    have e : x = a := by simpa using h
    subst e
    simp [cellTot]
  | x :: r, k + 1, a, h => by
    have := cellTot_take (s := s) (ar := r) (k := k) (a := a) (by simpa using h)
    rw [List.take_succ_cons, List.take_succ_cons, cellTot, cellTot, this]; omega
theorem cellTot_take_le {s : Nat} : ∀ (ar : List Int) (k : Nat), cellTot s (ar.take k) ≤ cellTot s ar
  | [], k => by simp [cellTot]
  | x :: r, 0 => by simp [cellTot]
  | x :: r, k + 1 => by
    have := cellTot_take_le (s := s) r k
    rw [List.take_succ_cons, cellTot, cellTot]; omega
theorem power30Y (b n : Nat) (w : World) (hb : b ≤ 4) (hn : n ≤ 12) : Calls Try.prog 30 #[.int .i64 b, .int .i64 n] w fun e w' => e = .returned (.int .i64 (b ^ n : Nat)) ∧ Below w.heap.size w w' :=
  (power30 b n w hb hn).mono fun e w' ⟨h1, h2⟩ => ⟨h1, by rw [h2]; exact Below.refl _ _⟩
theorem tabs_much {s : Nat} (hs : 1 ≤ s) {ar : List Int} {k m : Nat} {a : Int} (hk : ar[k]? = some a) (hm : m < s ^ a.toNat) (h : 100000 < s ^ (cellTot s (ar.take k) + m) * s) : tabsN s ar = 100000 := by
  unfold tabsN
  rw [if_neg]
  intro h2
  rw [← Nat.pow_succ] at h
  have h3 : cellTot s (ar.take k) + m + 1 ≤ cellTot s ar := by
    have h4 := cellTot_take (s := s) hk
    have h5 := cellTot_take_le (s := s) ar (k + 1)
    omega
  have h6 := Nat.pow_le_pow_right hs h3
  have : s ^ (cellTot s (ar.take k) + m).succ = s ^ (cellTot s (ar.take k) + m + 1) := rfl
  omega

set_option maxRecDepth 100000 in
set_option maxHeartbeats 4000000 in
theorem tables52 (ar : List Int) (s : Nat) (hs : 1 ≤ s) (hs4 : s ≤ 4) (har : ∀ x ∈ ar, 0 ≤ x ∧ x ≤ 3) (hna : ar.length ≤ 1000000) (q : Nat → Prop) (ao : Option Addr) (ca : Nat) (cv : Value) (w : World) (ha : intE.Row q w ao ar) :
    Calls Try.prog 52 #[.agg #[.slice ao ar.length ca, cv], .int .i64 s] w fun e w' => e = .returned (.int .i64 (tabsN s ar : Nat)) ∧ Below w.heap.size w w' := by
  have HA := Lib.hid ha; have HR := Lib.hid har; have HS := Lib.hid hs
  obtain ⟨N, hN⟩ : ∃ N : Nat → Nat → Nat, N = fun k m => s ^ (cellTot s (ar.take k) + m) := ⟨_, rfl⟩
  have HN0 := Lib.hid (show N 0 0 = 1 by rw [hN]; simp [cellTot])
  have HNM := Lib.hid (show ∀ k m, N k (m + 1) = N k m * s from fun k m => by rw [hN]; exact Nat.pow_succ _ _)
  have HNK := Lib.hid (show ∀ (k : Nat) a, ar[k]? = some a → N k (s ^ a.toNat) = N (k + 1) 0 from fun k a hk => by rw [hN]; show s ^ _ = s ^ _; rw [cellTot_take hk]; rfl)
  have HNB := Lib.hid (show ∀ (k m : Nat) a, ar[k]? = some a → m < s ^ a.toNat → 100000 < N k m * s → tabsN s ar = 100000 from fun k m a hk hm h => tabs_much hs hk hm (by rw [hN] at h; exact h))
  have HNE := Lib.hid (show N ar.length 0 ≤ 100000 → tabsN s ar = N ar.length 0 from fun h => by
    have e : N ar.length 0 = s ^ cellTot s ar := by rw [hN]; simp
    rw [e] at h ⊢
    unfold tabsN; rw [if_pos h])
  obtain ⟨bx, hbx⟩ : ∃ b, b = w.heap.size := ⟨_, rfl⟩
  have S1 := (St.start w).box hbx.symm #[.slice ao ar.length ca, cv] 29
  have hsz1 : (w.alloc (.cells #[.slice ao ar.length ca, cv] 29)).heap.size = bx + 1 := by simp [hbx]
  clear ha har hN hs
  go_enter Try.func52, Try.ntmps52
  go_wp2_with fail
  rw [← hbx]
  refine S1.genC (z := bx + 1) (by omega) ?_
  intro w1 z1 S
  have HBX := Lib.hid hbx
  clear S1 hbx hsz1
  go_loopw [5, 6] (fun n i wr => ∃ k : Nat, k ≤ ar.length ∧ i = .int .i64 k ∧ n = .int .i64 (N k 0 : Nat) ∧ N k 0 ≤ 100000 ∧ bx + 1 ≤ wr.heap.size ∧ St w wr [.box bx #[.slice ao ar.length ca, cv] 29]) (fun _ i _ => ar.length - (intOf i).toNat)
  case atStart => exact ⟨0, by omega, rfl, by rw [HN0.out]; rfl, by rw [HN0.out]; omega, z1, S⟩
  case round =>
    clear S
    obtain ⟨k, hk, rfl, rfl, hkb, zh, Sh⟩ := hrel
    obtain ⟨⟨x0, _⟩, x1, _⟩ := Sh.two 0
    by_cases hlt : k < ar.length
    · have hlti : (k : Int) < (ar.length : Int) := by omega
      obtain ⟨b, off, rfl, _, c0'⟩ := HA.out.int hlt
      have c0 := Below.cellOf Sh.bel c0'
      obtain ⟨X, hX⟩ : ∃ X, X = ar[k] := ⟨_, rfl⟩
      have HXK := Lib.hid (show ar[k]? = some X by rw [hX]; exact List.getElem?_eq_getElem hlt)
      have hxr := HR.out X (List.mem_of_getElem? HXK.out)
      obtain ⟨a, hxa⟩ : ∃ a : Nat, X = (a : Int) := ⟨X.toNat, by omega⟩
      subst hxa
      have HXC := Lib.hid (show ∀ (W : World), Below w.heap.size w W → W.cell? ⟨b, off + k, none⟩ = some (.int .i64 (a : Int)) from fun W hb => by
        have h := Below.cellOf hb c0'
        rw [← hX] at h; exact h)
      have ha3 : a ≤ 3 := by omega
      obtain ⟨P, hP⟩ : ∃ P, s ^ a = P := ⟨_, rfl⟩
      have HP := Lib.hid (show s ^ (a : Int).toNat = P by rw [← hP]; rfl)
      have hPl : P ≤ 64 := by
        have h1 : s ^ a ≤ 4 ^ a := Nat.pow_le_pow_left hs4 a
        have h2 : 4 ^ a ≤ 4 ^ 3 := Nat.pow_le_pow_right (by omega) ha3
        have h3 : (4 : Nat) ^ 3 = 64 := by decide
        omega
      have HC30 := Lib.hid (show ∀ W, Calls Try.prog 30 #[.int .i64 s, .int .i64 a] W fun e w' => e = .returned (.int .i64 (P : Nat)) ∧ Below W.heap.size W w' from fun W => by
        have h := power30Y s a W hs4 (by omega)
        rw [hP] at h; exact h)
      clear c0 c0' hX hxr hP
      go_wp2_with fail
      obtain ⟨wv, hwv⟩ : ∃ W, W = wr := ⟨_, rfl⟩
      subst hwv
      clear x0 x1
      go_loopw [5, 7] (fun n i wr => ∃ m : Nat, m ≤ P ∧ i = .int .i64 m ∧ n = .int .i64 (N k m : Nat) ∧ N k m ≤ 100000 ∧ bx + 1 ≤ wr.heap.size ∧ St w wr [.box bx #[.slice (some ⟨b, off, none⟩) ar.length ca, cv] 29]) (fun _ i _ => P - (intOf i).toNat)
      case atStart => exact ⟨0, by omega, rfl, rfl, hkb, zh, Sh⟩
      case round =>
        clear Sh hkb
        obtain ⟨m, hm, rfl, rfl, hmb, zi, Si⟩ := hrel
        obtain ⟨⟨x0, _⟩, x1, _⟩ := Si.two 0
        have c0 := HXC.out _ Si.bel
        go_wp2_with fail
        refine (Si.quiet (HC30.out wr)).mono ?_
        rintro e w2 ⟨rfl, zj, Sj⟩
        clear Si x0 x1 c0
        by_cases hlt2 : m < P
        · have hlti2 : (m : Int) < (P : Int) := by omega
          have hws : N k m * s ≤ 400000 := Nat.le_trans (Nat.mul_le_mul hmb hs4) (by omega)
          have hw : IntKind.i64.wrap ((N k m : Int) * (s : Int)) = ((N k (m + 1) : Nat) : Int) := by rw [HNM.out k m, ← Int.natCast_mul]; exact IntWalk.i64_in _ (by omega)
          by_cases hmuch : 100000 < N k (m + 1)
          · have hmi : (100000 : Int) < ((N k (m + 1) : Nat) : Int) := by omega
            have HF := Lib.hid (HNB.out k m a HXK.out (by rw [HP.out]; exact hlt2) (by rw [← HNM.out k m]; exact hmuch))
            have SE := Lib.hid Sj.bel
            clear Sj hws hmuch
            go_wp2_with fail
            go_ret
            exact ⟨congrArg (fun n : Nat => Ending.returned (.int .i64 (n : Int))) HF.out.symm, SE.out⟩
          · have hmi : ¬ (100000 : Int) < ((N k (m + 1) : Nat) : Int) := by omega
            have hmb2 : N k (m + 1) ≤ 100000 := by omega
            have zk : bx + 1 ≤ w2.heap.size := by omega
            clear hws hmuch hmb
            go_wp2_with fail
            go_roundw
            case rel => exact ⟨m + 1, by omega, by go_num, rfl, hmb2, zk, Sj⟩
            case measure => simp [intOf] <;> omega
        · obtain rfl : m = P := by omega
          have HK := Lib.hid (show N k m = N (k + 1) 0 by have := HNK.out k a HXK.out; rw [HP.out] at this; exact this)
          have hkb2 : N (k + 1) 0 ≤ 100000 := by rw [← HK.out]; exact hmb
          have zk : bx + 1 ≤ w2.heap.size := by omega
          rw [HK.out]
          clear hmb
          go_wp2_with fail
          go_roundw
          case rel => exact ⟨k + 1, by omega, by go_num, rfl, hkb2, zk, Sj⟩
          case measure => simp [intOf] <;> omega
    · obtain rfl : k = ar.length := by omega
      have HF := Lib.hid (HNE.out hkb)
      have SE := Lib.hid Sh.bel
      clear Sh
      go_wp2_with fail
      go_ret
      exact ⟨congrArg (fun n : Nat => Ending.returned (.int .i64 (n : Int))) HF.out.symm, SE.out⟩
end Go.Proofs.Yteekoclfpehnpaa
namespace Go.Proofs.Yteekoclfpehnpaa
open Go.RowKit Go.Shelf
set_option linter.unusedVariables false
set_option maxHeartbeats 400000

/-- the last M digits of n, the greatest first -/
def numD (s : Nat) : Nat → Nat → List Int
  | 0, _ => []
  | M + 1, n => ((n / s ^ M % s : Nat) : Int) :: numD s M n
theorem numD_length {s : Nat} : ∀ (M n : Nat), (numD s M n).length = M
  | 0, _ => rfl
  | M + 1, n => by rw [numD, List.length_cons, numD_length M n]
theorem numD_add {s : Nat} : ∀ (M K n : Nat), numD s (M + K) n = numD s M (n / s ^ K) ++ numD s K n
  | 0, K, n => by simp [numD]
  | M + 1, K, n => by
    rw [show M + 1 + K = (M + K) + 1 by omega, numD, numD, numD_add M K n, Nat.div_div_eq_div_mul, ← Nat.pow_add, Nat.add_comm K M]
    rfl
theorem numD_ok {s : Nat} (hs : 1 ≤ s) : ∀ (M n : Nat), ThOK s (numD s M n)
  | 0, _ => fun x hx => by cases hx
  | M + 1, n => fun x hx => by
    rw [numD] at hx
    rcases List.mem_cons.1 hx with rfl | hx
    · have := Nat.mod_lt (n / s ^ M) (show 0 < s by omega); omega
    · exact numD_ok hs M n x hx
/-- the table that has a number, and what is left of it -/
def numTb (s : Nat) : List Int → Nat → List (List Int) × Nat
  | [], n => ([], n)
  | a :: r, n => (numD s (s ^ a.toNat) (numTb s r n).2 :: (numTb s r n).1, (numTb s r n).2 / s ^ (s ^ a.toNat))
theorem numTb_flat {s : Nat} : ∀ (ar : List Int) (n : Nat), (numTb s ar n).1.flatten = numD s (cellTot s ar) n ∧ (numTb s ar n).2 = n / s ^ cellTot s ar
  | [], n => by simp [numTb, cellTot, numD]
  | a :: r, n => by
    obtain ⟨h1, h2⟩ := numTb_flat r n
    rw [numTb, cellTot]
    refine ⟨?_, ?_⟩
    · show numD s (s ^ a.toNat) (numTb s r n).2 ++ (numTb s r n).1.flatten = _
      rw [h1, h2, numD_add]
    · show (numTb s r n).2 / s ^ (s ^ a.toNat) = _
      rw [h2, Nat.div_div_eq_div_mul, ← Nat.pow_add, Nat.add_comm]
theorem numTb_length {s : Nat} : ∀ (ar : List Int) (n : Nat), (numTb s ar n).1.length = ar.length
  | [], n => rfl
  | a :: r, n => by rw [numTb]; simp [numTb_length r n]
theorem numTb_ok {s : Nat} (hs : 1 ≤ s) : ∀ (ar : List Int) (n : Nat), ∀ (i : Nat) a l, ar[i]? = some a → (numTb s ar n).1[i]? = some l → l.length = s ^ a.toNat ∧ ThOK s l
  | [], n, i, a, l, h, _ => by simp at h
  | x :: r, n, 0, a, l, h, h2 => by
    rw [numTb] at h2
    have e1 : x = a := by simpa using h
    have e2 : numD s (s ^ x.toNat) (numTb s r n).2 = l := by simpa using h2
    subst e1 e2
    exact ⟨numD_length _ _, numD_ok hs _ _⟩
  | x :: r, n, i + 1, a, l, h, h2 => by
    rw [numTb] at h2
    exact numTb_ok hs r n i a l (by simpa using h) (by simpa using h2)
theorem numTb_drop {s : Nat} {ar : List Int} {k n : Nat} {a : Int} (h : ar[k]? = some a) : numTb s (ar.drop k) n = (numD s (s ^ a.toNat) (numTb s (ar.drop (k + 1)) n).2 :: (numTb s (ar.drop (k + 1)) n).1, (numTb s (ar.drop (k + 1)) n).2 / s ^ (s ^ a.toNat)) := by
  obtain ⟨hk, he⟩ := List.getElem?_eq_some_iff.1 h
  rw [List.drop_eq_getElem_cons hk, he, numTb]
theorem numTb_tabOK {s : Nat} {ar : List Int} (hs : 1 ≤ s) (hs4 : s ≤ 4) (har : ∀ x ∈ ar, 0 ≤ x ∧ x ≤ 3) (n : Nat) : TabOK ar s (numTb s ar n).1 :=
  ⟨hs, hs4, numTb_length _ _, fun i a l h1 h2 => by
    have h3 := har a (List.mem_of_getElem? h1)
    have h4 := numTb_ok hs ar n i a l h1 h2
    exact ⟨h3.1, h3.2, h4.1, h4.2⟩⟩
theorem infoIS : (Try.prog.info? 27).map (fun i => (i.zero, i.size, i.bytes)) = some (some (.slice none 0 0), 1, 24) := by kernel_rfl
theorem ownsRow_base {w : World} {B B' : Nat} {e : TypeId} {k : Nat} {v : Value} {n : Nat} {xs : List Value} (h : w.ownsRow B e k v n xs) (hb : B' ≤ B) : w.ownsRow B' e k v n xs := by
  obtain ⟨h1, h2⟩ := h
  refine ⟨h1, ?_⟩
  rcases h2 with h2 | ⟨g, cap, cur, a1, a2, a3⟩
  · exact .inl h2
  · exact .inr ⟨g, cap, cur, a1, Nat.le_trans hb a2, a3⟩
/-- an own row's parts -/
theorem Elt.Own.parts {α : Type} {E : Elt α} {p : Nat → Prop} {B : Nat} {w : World} {o : Value} {xs : List α} (h : E.Own p B w o xs) : ∃ (xo : Option Addr) (cap : Nat) (css : List (List Value)), o = .slice xo xs.length cap ∧ (xo = none → xs.length = 0 ∧ cap = 0) ∧ css.length = xs.length ∧ css.flatten.length = xs.length * E.n ∧ w.ownsRow B E.ty E.n o xs.length css.flatten ∧
    (∀ ad, xo = some ad → ∀ j u, css.flatten[j]? = some u → w.cell? (ad.add j) = some u) ∧ (∀ u ∈ css.flatten, u.oneCell' = true) ∧ ∀ (i : Nat) cs x, css[i]? = some cs → xs[i]? = some x → E.is (fun b => p b ∧ o.ownBlock ≠ some b) w cs x := by
  obtain ⟨css, hcl, ho, hk⟩ := h
  have h1 : ∀ u ∈ css.flatten, u.oneCell' = true := fun u hu => by
    obtain ⟨cs, hcs, hu⟩ := List.mem_flatten.1 hu
    obtain ⟨i, hi⟩ := List.mem_iff_getElem?.1 hcs
    have hil : i < xs.length := by rw [← hcl]; exact (List.getElem?_eq_some_iff.1 hi).1
    exact E.one (hk i cs xs[i] hi (List.getElem?_eq_getElem hil)) u hu
  obtain ⟨hl, hv⟩ := id ho
  rcases hv with ⟨rfl, hn⟩ | ⟨g, cap, cur, rfl, hb, hh, hc1, hc2, hc3, ht⟩
  · rw [hn] at ho ⊢
    exact ⟨none, 0, css, rfl, fun _ => ⟨rfl, rfl⟩, by omega, by rw [hl, hn], ho, (fun ad h => by cases h), h1, hk⟩
  · refine ⟨some ⟨g, 0, none⟩, cap, css, rfl, (fun h => by cases h), hcl, hl, ho, (fun ad he j u hu => ?_), h1, hk⟩
    obtain rfl := Option.some.inj he
    rw [← ht] at hu
    have hu2 : cur[j]? = some u := by
      rw [List.getElem?_take] at hu
      split at hu
      · simpa using hu
      · cases hu
    rw [Addr.add_lit]
    simp [World.cell?, hh, hu2]
theorem St.ownsLt {α : Type} {w0 w : World} {l : List Fct} (S : St w0 w l) (E : Elt α) (i : Nat) {B : Nat} {p : Nat → Prop} {o : Value} {xs : List α} (h : Fct.at l i = Fct.owns E B p o xs) {g : Nat} (hg : w.heap.size = g) : St w0 w (fset l i (.owns E B (fun b => p b ∧ b < g) o xs)) := by
  subst hg
  refine S.weak fun j hj => ?_
  by_cases e : j = i
  · subst e
    rcases at_fset_same (.owns E B (fun b => p b ∧ b < w.heap.size) o xs) l j with h1 | h1
    · rw [h1]
      obtain ⟨css, hcl, ho, hk⟩ := S.owns E j h
      exact ⟨css, hcl, ho, fun i cs x h1 h2 => E.keep (fun b hb hl => ⟨rfl, ⟨hb.1, hl⟩, hb.2⟩) (hk i cs x h1 h2)⟩
    · rw [h1]; trivial
  · rw [at_fset_other _ _ _ _ e]; exact hj
/-- x has been put ahead -/
theorem St.prep {α : Type} {w0 w w3 : World} {l : List Fct} (S : St w0 w l) (E : Elt α) (i : Nat) {B : Nat} {p p' q : Nat → Prop} {o v' : Value} {xs : List α} {x : α} {css : List (List Value)} {cs : List Value} {n : Nat} {ob : Obj}
    (hx : E.is q w cs x) (hcl : css.length = xs.length) (hel : ∀ (i : Nat) cs x, css[i]? = some cs → xs[i]? = some x → E.is (fun b => p b ∧ o.ownBlock ≠ some b) w cs x)
    (hn : n = xs.length + 1) (hown : w3.ownsRow w.heap.size E.ty E.n v' n (cs ++ css.flatten)) (hg : (w.alloc ob).grownBy w3 (some w.heap.size)) (hB : B ≤ w.heap.size) (hpq : ∀ b, p b ∨ q b → p' b) :
    St w0 w3 (fset l i (.owns E B p' v' (x :: xs))) := by
  have hsame : ∀ b, b < w.heap.size → w3.heap[b]? = w.heap[b]? := fun b h1 =>
    (hg.block b (by simp; omega) (fun e => by have := Option.some.inj e; omega)).trans (Below.heap_alloc w _ b h1)
  have hbel : Below w.heap.size w w3 := ((Below.refl w.heap.size w).alloc (Nat.le_refl _) ob).grown hg (by simp) (fun c hc => by have := Option.some.inj hc; omega)
  have hnew : ∀ b, b < w.heap.size → v'.ownBlock ≠ some b := fun b hb e => by
    have := hown.lt b e
    omega
  have S3 := S.step hbel
  refine ⟨S3.1, fun j => ?_⟩
  by_cases hj : j = i
  · subst hj
    rcases at_fset_same (.owns E B p' v' (x :: xs)) l j with h | h
    · rw [h]
      subst hn
      refine ⟨cs :: css, by simp [hcl], ownsRow_base (by simpa using hown) hB, fun k c y hc hy => ?_⟩
      rcases k with _ | k
      · simp at hc hy
        subst hc hy
        exact E.keep (fun b hb hl => ⟨hsame b hl, hpq b (.inr hb), hnew b hl⟩) hx
      · simp at hc hy
        exact E.keep (fun b hb hl => ⟨hsame b hl, hpq b (.inl hb.1), hnew b hl⟩) (hel k c y hc hy)
    · rw [h]; trivial
  · rw [at_fset_other _ _ _ _ hj]
    exact S3.2 j
set_option maxRecDepth 100000 in
set_option maxHeartbeats 4000000 in
theorem numbered55 (ar : List Int) (s n0 : Nat) (hs : 1 ≤ s) (hs4 : s ≤ 4) (har : ∀ x ∈ ar, 0 ≤ x ∧ x ≤ 3) (hna : ar.length ≤ 1000) (hn0 : n0 ≤ 1000000) (q : Nat → Prop) (ao : Option Addr) (ca : Nat) (cv : Value) (w : World) (ha : intE.Row q w ao ar) :
    Calls Try.prog 55 #[.agg #[.slice ao ar.length ca, cv], .int .i64 s, .int .i64 n0] w fun e w' => ∃ to_ ct, e = .returned (.agg #[.int .i64 s, .slice to_ (numTb s ar n0).1.length ct]) ∧ (to_ = none → ct = 0) ∧ (∃ sp, ct = (numTb s ar n0).1.length + sp) ∧ intsE.Row (fun b => w.heap.size ≤ b) w' to_ (numTb s ar n0).1 ∧ Below w.heap.size w w' := by
  have HA := Lib.hid ha; have HR := Lib.hid har; have HS := Lib.hid hs
  obtain ⟨iS, gs, gs0, gs1, gs2⟩ := info_parts infoIS
  obtain ⟨bx, hbx⟩ : ∃ b, b = w.heap.size := ⟨_, rfl⟩
  have S1 := (((St.start w).box hbx.symm #[.slice ao ar.length ca, cv] 29).box (b := bx + 1) (by simp [hbx]) #[.int .i64 0, .slice none 0 0] 41).box (b := bx + 2) (by simp [hbx]) #[.int .i64 s, .slice none 0 0] 41
  have hsz1 : (((w.alloc (.cells #[.slice ao ar.length ca, cv] 29)).alloc (.cells #[.int .i64 0, .slice none 0 0] 41)).alloc (.cells #[.int .i64 s, .slice none 0 0] 41)).heap.size = bx + 3 := by simp [hbx]
  obtain ⟨⟨x0, _⟩, x1, _⟩ := S1.two 0
  have hw1 : IntKind.i64.wrap ((ar.length : Int) - 1) = (ar.length : Int) - 1 := IntWalk.i64_in _ (by omega)
  have hs0 : ¬ s = 0 := by omega
  clear ha har hs
  go_enter Try.func55, Try.ntmps55
  go_wp2_with fail
  rw [← hbx]
  refine S1.genC (z := bx + 3) (by omega) ?_
  intro w1 z1 S
  have HBX := Lib.hid hbx
  clear S1 hbx hsz1 x0 x1 hw1
  have S := S.add (.owns intsE (bx + 3) (fun b => bx + 3 ≤ b) (.slice none 0 0) []) (Elt.Own.nil _ _ _ _)
  have S : St w w1 [.box bx #[.slice ao ar.length ca, cv] 29, .box (bx + 1) #[.int .i64 0, .slice none 0 0] 41, .box (bx + 2) #[.int .i64 s, .slice none 0 0] 41, .owns intsE (bx + 3) (fun b => bx + 3 ≤ b) (.slice none 0 0) []] := S
  go_loopw [2, 8] (fun nv i wr => ∃ (k nn : Nat) (o : Value) (tb : List (List Int)), k ≤ ar.length ∧ i = .int .i64 ((k : Int) - 1) ∧ nv = .int .i64 (nn : Nat) ∧ nn ≤ 1000000 ∧ Hid (numTb s (ar.drop k) n0 = (tb, nn)) ∧ bx + 3 ≤ wr.heap.size ∧ St w wr [.box bx #[.slice ao ar.length ca, cv] 29, .box (bx + 1) #[.int .i64 0, .slice none 0 0] 41, .box (bx + 2) #[.int .i64 s, o] 41, .owns intsE (bx + 3) (fun b => bx + 3 ≤ b) o tb]) (fun _ i _ => (intOf i + 1).toNat)
  case atStart => exact ⟨ar.length, n0, .slice none 0 0, [], by omega, rfl, rfl, hn0, by rw [List.drop_length, numTb]; rfl, z1, S⟩
  case round =>
    clear S
    obtain ⟨k1, nn, o, tb, hk, rfl, rfl, hnn, HNT, zh, Sh⟩ := hrel
    obtain ⟨⟨x0, _⟩, x1, _⟩ := Sh.two 0
    rcases k1 with _ | k
    · have hlti : ¬ (0 : Int) ≤ ((0 : Nat) : Int) - 1 := by omega
      have hlti2 : ((0 : Nat) : Int) - 1 < 0 := by omega
      have HE := Lib.hid (show (numTb s ar n0).1 = tb by have h := HNT.out; rw [List.drop_zero] at h; rw [h])
      obtain ⟨xo, cap, css, rfl, hxo, hcl, hfl, hown, hnews, hone, hel⟩ := (Sh.owns intsE 3).parts
      obtain ⟨oa, osp, e', hrow, _⟩ := ((Sh.owns intsE 3)).row (fun b hb => hb)
      obtain ⟨rfl, hcap⟩ : xo = oa ∧ cap = tb.length + osp := by simpa using e'
      have HROW := Lib.hid hrow
      have HXO := Lib.hid (show xo = none → cap = 0 from fun h => (hxo h).2)
      have HCAP := Lib.hid hcap
      have SB := Lib.hid Sh
      obtain ⟨⟨y0, _⟩, y1, _⟩ := Sh.two 2
      obtain ⟨⟨u0, v0⟩, u1, v1⟩ := Sh.two 1
      have hl1 := Sh.lt 1
      clear hxo hcl hfl hown hnews hone hel hrow hcap e' Sh
      go_wp2_with fail
      refine ret_box2 (.int .i64 s) (.slice xo tb.length cap) (bx + 1) 41 (box2_set (SB.out.block 1) _ _) (fun w' q0 q1 => by simp [results, Try.results55, go_sem, q0, q1]) rfl ?_
      rw [HE.out]
      have hb0 := HBX.out
      exact ⟨xo, cap, rfl, HXO.out, ⟨osp, HCAP.out⟩, HROW.out.keep (fun b h1 h2 => ⟨(Below.heap_setCell _ _ _ _ (by show b ≠ bx + 1; omega)).trans (Below.heap_setCell _ _ _ _ (by show b ≠ bx + 1; omega)), by omega⟩), (SB.out.bel.setCell (p := ⟨bx + 1, 0, none⟩) (by show _ ≤ bx + 1; omega) _).setCell (p := ⟨bx + 1, 1, none⟩) (by show _ ≤ bx + 1; omega) _⟩
    · have hke : (((k + 1 : Nat) : Int) - 1) = (k : Int) := by omega
      rw [hke]
      have hlti : (0 : Int) ≤ (k : Int) := by omega
      have hlt : k < ar.length := by omega
      have hlt2 : (k : Int) < (ar.length : Int) := by omega
      obtain ⟨b, off, rfl, _, c0'⟩ := HA.out.int hlt
      obtain ⟨X, hX⟩ : ∃ X, X = ar[k] := ⟨_, rfl⟩
      have HXK := Lib.hid (show ar[k]? = some X by rw [hX]; exact List.getElem?_eq_getElem hlt)
      have hxr := HR.out X (List.mem_of_getElem? HXK.out)
      obtain ⟨a, hxa⟩ : ∃ a : Nat, X = (a : Int) := ⟨X.toNat, by omega⟩
      subst hxa
      have c0 := Below.cellOf Sh.bel c0'
      rw [← hX] at c0
      have ha3 : a ≤ 3 := by omega
      obtain ⟨P, hP⟩ : ∃ P, s ^ a = P := ⟨_, rfl⟩
      have hPl : P ≤ 64 := by
        have h1 : s ^ a ≤ 4 ^ a := Nat.pow_le_pow_left hs4 a
        have h2 : 4 ^ a ≤ 4 ^ 3 := Nat.pow_le_pow_right (by omega) ha3
        have h3 : (4 : Nat) ^ 3 = 64 := by decide
        omega
      have HC30 := Lib.hid (show ∀ W, Calls Try.prog 30 #[.int .i64 s, .int .i64 a] W fun e w' => e = .returned (.int .i64 (P : Nat)) ∧ Below W.heap.size W w' from fun W => by
        have h := power30Y s a W hs4 (by omega)
        rw [hP] at h; exact h)
      have HNP := Lib.hid (show numTb s (ar.drop k) n0 = (numD s P nn :: tb, nn / s ^ P) by
        have h := numTb_drop (s := s) (n := n0) HXK.out
        rw [HNT.out, show s ^ ((a : Int)).toNat = P from hP] at h; exact h)
      have hmk := make27 P (by omega)
      have hw1 : IntKind.i64.wrap ((P : Int) - 1) = (P : Int) - 1 := IntWalk.i64_in _ (by omega)
      clear c0' hX hxr hP HNT
      go_wp2_with fail
      refine (Sh.quiet (HC30.out wr)).mono ?_
      rintro e w2 ⟨rfl, z2, S2⟩
      obtain ⟨g, hg⟩ : ∃ g, g = w2.heap.size := ⟨_, rfl⟩
      have HOL := Lib.hid (show ∀ b, o.ownBlock = some b → b < g from fun b hb => by rw [hg]; exact (S2.ownlt intsE 3 rfl b hb).2)
      have S2 : St w w2 [.box bx #[.slice (some ⟨b, off, none⟩) ar.length ca, cv] 29, .box (bx + 1) #[.int .i64 0, .slice none 0 0] 41, .box (bx + 2) #[.int .i64 s, o] 41, .owns intsE (bx + 3) (fun b => bx + 3 ≤ b ∧ b < g) o tb] := S2.ownsLt intsE 3 rfl hg.symm
      have S3 := S2.box hg.symm (tc (List.replicate P 0)) 3
      have z3 : g + 1 ≤ (w2.alloc (.cells (tc (List.replicate P 0)) 3)).heap.size := by simp [hg]
      have HG := Lib.hid (show bx + 3 ≤ g by omega)
      clear Sh S2 x0 x1 c0
      go_wp2_with fail
      rw [← hg]
      refine S3.genC (z := g + 1) z3 ?_
      intro w3 z3' S
      have S : St w w3 [.box bx #[.slice (some ⟨b, off, none⟩) ar.length ca, cv] 29, .box (bx + 1) #[.int .i64 0, .slice none 0 0] 41, .box (bx + 2) #[.int .i64 s, o] 41, .owns intsE (bx + 3) (fun b => bx + 3 ≤ b ∧ b < g) o tb, .box g (tc (List.replicate P 0)) 3] := S
      clear S3 z3 hg hmk hw1
      obtain ⟨wv, hwv⟩ : ∃ W, W = wr := ⟨_, rfl⟩
      subst hwv
      have HHK := Lib.hid hk
      clear hk zh z2
      go_loopw [2, 10] (fun nv j wr => ∃ (m n2 : Nat) (row : List Int), m ≤ P ∧ j = .int .i64 ((m : Int) - 1) ∧ nv = .int .i64 (n2 : Nat) ∧ n2 ≤ 1000000 ∧ row.length = P ∧ Hid (row.drop m = numD s (P - m) nn ∧ n2 = nn / s ^ (P - m)) ∧ g + 1 ≤ wr.heap.size ∧ St w wr [.box bx #[.slice (some ⟨b, off, none⟩) ar.length ca, cv] 29, .box (bx + 1) #[.int .i64 0, .slice none 0 0] 41, .box (bx + 2) #[.int .i64 s, o] 41, .owns intsE (bx + 3) (fun b => bx + 3 ≤ b ∧ b < g) o tb, .box g (tc row) 3]) (fun _ j _ => (intOf j + 1).toNat)
      case atStart => exact ⟨P, nn, List.replicate P 0, by omega, rfl, rfl, hnn, by simp, ⟨by simp [numD], by simp⟩, z3', S⟩
      case round =>
        clear S z3' hnn
        obtain ⟨m1, n2, row, hm, rfl, rfl, hn2, hrl, HROW, zi, Si⟩ := hrel
        rcases m1 with _ | m
        · have hmti : ((0 : Nat) : Int) - 1 < 0 := by omega
          have hmti2 : ¬ (0 : Int) ≤ ((0 : Nat) : Int) - 1 := by omega
          have HRV := Lib.hid (show row = numD s P nn ∧ n2 = nn / s ^ P by have h := HROW.out; rw [List.drop_zero, Nat.sub_zero] at h; exact h)
          have HRL := Lib.hid hrl
          clear HROW hm
          obtain ⟨xo, cap, css, rfl, hxo, hcl, hfl, hown, hnews, hone, hel⟩ := Elt.Own.parts (Si.owns intsE 3)
          have HXO := Lib.hid hxo; have HNEWS := Lib.hid hnews; have HONE := Lib.hid hone; have HFL := Lib.hid hfl; have HEL := Lib.hid hel; have HCL := Lib.hid hcl
          obtain ⟨b1, hb1⟩ : ∃ b, b = wr.heap.size := ⟨_, rfl⟩
          have HB1 := Lib.hid hb1
          have SA := Si.alloc (.cells #[.slice (some ⟨g, 0, none⟩) P P] 27)
          obtain ⟨⟨y0, _⟩, y1, _⟩ := SA.two 2
          have HTL := Lib.hid (show tb.length ≤ 1000 by
            have h1 := numTb_length (s := s) (ar.drop k) n0
            rw [HNP.out] at h1
            simp at h1; omega)
          clear hxo hcl hfl hown hnews hone hel hb1 hrl
          go_wp2_with (at_builtin; refine wpList_append_own_any rfl (.tmp 46) (.tmp 48) 39 rfl wr.heap.size 27 iS (.slice none 0 0) 1 24 Try.underlying39 gs gs0 gs1 gs2 rfl (by decide) (.slice (some ⟨wr.heap.size, 0, none⟩) 1 1) 1 [.slice (some ⟨g, 0, none⟩) P P] rfl ⟨rfl, .inr ⟨wr.heap.size, 1, #[.slice (some ⟨g, 0, none⟩) P P], rfl, Nat.le_refl _, heap_ofAlloc wr _, Nat.le_refl _, by decide, rfl, rfl⟩⟩ xo tb.length cap css.flatten rfl HXO.out HFL.out (fun ad he j u hu => Below.cellOf ((Below.refl _ wr).alloc (Nat.le_refl _) _) (HNEWS.out ad he j u hu)) HONE.out ?c3 ?c4 ?c5 ?_)
          case c3 => have := HTL.out; unfold maxLen; omega
          case c4 => have := HTL.out; omega
          intro v' w4 hown4 hg4
          obtain ⟨gg, cap2, hv'⟩ : ∃ gg cap2, v' = .slice (some ⟨gg, 0, none⟩) (1 + tb.length) cap2 := by
            rcases hown4.2 with ⟨_, h2⟩ | ⟨gg, cap2, cur, h2, _⟩
            · omega
            · exact ⟨gg, cap2, h2⟩
          subst hv'
          have S4 := Si.prep (w3 := w4) intsE 3 (B := bx + 3) (p := fun b => bx + 3 ≤ b ∧ b < g) (p' := fun b => bx + 3 ≤ b) (q := fun b => b = g) (x := numD s P nn) (cs := [.slice (some ⟨g, 0, none⟩) P P]) (n := 1 + tb.length) ⟨some ⟨g, 0, none⟩, 0, by rw [numD_length]; rfl, row_tc rfl (by rw [← HRV.out.1]; exact Si.block 4), by rw [numD_length]; unfold maxLen; omega⟩ HCL.out HEL.out (by omega) hown4 hg4 (by have := HG.out; omega) (fun b h => by rcases h with h | h; exact h.1; have := HG.out; omega)
          have S4 : St w w4 [.box bx #[.slice (some ⟨b, off, none⟩) ar.length ca, cv] 29, .box (bx + 1) #[.int .i64 0, .slice none 0 0] 41, .box (bx + 2) #[.int .i64 s, .slice xo tb.length cap] 41, .owns intsE (bx + 3) (fun b => bx + 3 ≤ b) (.slice (some ⟨gg, 0, none⟩) (1 + tb.length) cap2) (numD s P nn :: tb), .box g (tc row) 3] := S4
          have z4 : bx + 3 ≤ w4.heap.size := by have h := hg4.size; simp at h; have := HG.out; omega
          obtain ⟨⟨u0, u0f⟩, u1, u1f⟩ := S4.two 2
          have hl2 := S4.lt 2
          have hol := S4.ownlt intsE 3
          have S5 := (S4.set21 2 rfl (.slice (some ⟨gg, 0, none⟩) (1 + tb.length) cap2) (by have := HBX.out; omega) (by
            have hgg := HG.out
            simp only [offs, offAll, Fct.box, Fct.owns, and_true]
            refine ⟨by omega, by omega, ?_, by omega⟩
            rintro (h | h)
            · have := (hol _ h).1; omega
            · omega)).pick [0, 1, 2, 3]
          have z5 : bx + 3 ≤ (w4.setCell ⟨bx + 2, 1, none⟩ (.slice (some ⟨gg, 0, none⟩) (1 + tb.length) cap2)).heap.size := by simp; exact z4
          have hwk : IntKind.i64.wrap ((k : Int) - 1) = (k : Int) - 1 := IntWalk.i64_in _ (by omega)
          have HN2 := Lib.hid (show numTb s (ar.drop k) n0 = (numD s P nn :: tb, n2) by rw [HNP.out, HRV.out.2])
          clear hown4 hg4 S4 SA Si y0 y1 hol
          go_wp2_with fail
          go_roundw
          case rel => exact ⟨k, n2, Value.slice (some ⟨gg, 0, none⟩) (1 + tb.length) cap2, numD s P nn :: tb, by omega, by go_num, rfl, hn2, HN2.out, z5, S5⟩
          case measure => simp [intOf] <;> omega
        · have hmi : (((m + 1 : Nat) : Int) - 1) = (m : Int) := by omega
          rw [hmi]
          have hmti : (0 : Int) ≤ (m : Int) := by omega
          have hmti2 : ¬ (m : Int) < 0 := by omega
          have hmP : m < P := by omega
          have hmPi : (m : Int) < (P : Int) := by omega
          obtain ⟨Y, hY⟩ : ∃ Y, Y = n2 % s := ⟨_, rfl⟩
          obtain ⟨Z, hZ⟩ : ∃ Z, Z = n2 / s := ⟨_, rfl⟩
          have hrem : Int.tmod (n2 : Int) (s : Int) = (Y : Int) := by rw [hY]; rfl
          have hquo : Int.tdiv (n2 : Int) (s : Int) = (Z : Int) := by rw [hZ]; rfl
          have hYs : Y ≤ 4 := by have := Nat.mod_lt n2 (show 0 < s by omega); omega
          have hZb : Z ≤ 1000000 := by rw [hZ]; exact Nat.le_trans (Nat.div_le_self _ _) hn2
          have hwm : IntKind.i64.wrap ((m : Int) - 1) = (m : Int) - 1 := IntWalk.i64_in _ (by omega)
          have HRD := Lib.hid (show (row.set m (Y : Int)).length = P ∧ (row.set m (Y : Int)).drop m = numD s (P - m) nn ∧ Z = nn / s ^ (P - m) by
            obtain ⟨h1, h2⟩ := HROW.out
            have hPm : P - m = (P - (m + 1)) + 1 := by omega
            refine ⟨by simp [hrl], ?_, ?_⟩
            · rw [List.drop_eq_getElem_cons (by simp; omega), hPm, numD, List.getElem_set_self, List.drop_set_of_lt (by omega), h1, hY, h2]
            · rw [hZ, h2, hPm, Nat.div_div_eq_div_mul, Nat.pow_succ])
          obtain ⟨g0, g0f⟩ := Si.cell 4 m (v := .int .i64 (row[m]'(by omega))) (by simp [tc, hrl, hmP]) rfl
          have hgl := Si.lt 4
          have SN := Si.setAt 4 rfl m (.int .i64 (Y : Int)) (by have := HG.out; have := HBX.out; omega) (by
            have hgg := HG.out
            simp only [offs, offAll, Fct.box, Fct.owns, and_true]
            refine ⟨by omega, by omega, by omega, ?_⟩
            rintro (h | h)
            · have := HOL.out _ h; omega
            · omega)
          rw [tc_set] at SN
          obtain ⟨⟨x0, _⟩, x1, _⟩ := Si.two 0
          have zj : g + 1 ≤ (wr.setCell ⟨g, m, none⟩ (.int .i64 (Y : Int))).heap.size := by simp; exact zi
          clear Si hY hZ HROW
          go_wp2_with fail
          go_roundw
          case rel => exact ⟨m, Z, row.set m (Y : Int), by omega, by go_num, rfl, hZb, HRD.out.1, ⟨HRD.out.2.1, HRD.out.2.2⟩, zj, SN⟩
          case measure => simp [intOf] <;> omega
end Go.Proofs.Yteekoclfpehnpaa
namespace Go.Proofs.Yteekoclfpehnpaa
open Go.RowKit Go.Shelf
set_option linter.unusedVariables false
set_option maxHeartbeats 400000

noncomputable def foundF (s : Nat) (ar : List Int) (cs : List (List Fc)) : Int := idxP (fun n => modelB s (numTb s ar n).1 cs) (List.range (tabsN s ar))
theorem tabsN_le {s : Nat} {ar : List Int} : tabsN s ar ≤ 100000 := by
  unfold tabsN; split <;> omega
theorem St.numbered {P : Program} {n : Nat} {a : Array Value} {w0 w : World} {l : List Fct} (S : St w0 w l) {s : Nat} {tb : List (List Int)} (h : Calls P n a w fun e w' => ∃ to_ ct, e = .returned (.agg #[.int .i64 s, .slice to_ tb.length ct]) ∧ (to_ = none → ct = 0) ∧ (∃ sp, ct = tb.length + sp) ∧ intsE.Row (fun b => w.heap.size ≤ b) w' to_ tb ∧ Below w.heap.size w w') :
    Calls P n a w fun e w' => ∃ to_ ct, e = .returned (.agg #[.int .i64 s, .slice to_ tb.length (tb.length + ct)]) ∧ w.heap.size ≤ w'.heap.size ∧ St w0 w' (fsnoc l (.rowE intsE (fun b => w.heap.size ≤ b ∧ b < w'.heap.size) to_ tb)) :=
  h.mono fun e w' ⟨to_, ct, h1, _, ⟨sp, h2⟩, h3, h4⟩ => ⟨to_, sp, by rw [h1, h2], h4.size, (S.step h4).add (.rowE intsE _ to_ tb) (h3.mono (fun b hb hl => ⟨hb, hl⟩))⟩
set_option maxRecDepth 100000 in
set_option maxHeartbeats 4000000 in
theorem found54 (ar : List Int) (cs : List (List Fc)) (s : Nat) (hs : 1 ≤ s) (hs4 : s ≤ 4) (har : ∀ x ∈ ar, 0 ≤ x ∧ x ≤ 3) (hok : ∀ c ∈ cs, codeF ar c = 0) (hna : ar.length ≤ 1000) (p q : Nat → Prop) (ao co : Option Addr) (ca cc : Nat) (w : World) (ha : intE.Row q w ao ar) (h : claimE.Row p w co cs) (hp : ∀ b, p b → b < w.heap.size) (hn : cs.length ≤ 1000000) (hf : ∀ (i : Nat) c, cs[i]? = some c → c.length ≤ 1000000) :
    Calls Try.prog 54 #[.agg #[.slice ao ar.length ca, .slice co cs.length cc], .int .i64 s] w fun e w' => e = .returned (.int .i64 (foundF s ar cs)) ∧ Below w.heap.size w w' := by
  have HA := Lib.hid ha; have HC := Lib.hid h; have HP := Lib.hid hp; have HOK := Lib.hid hok; have HF := Lib.hid hf; have HAR := Lib.hid har; have HS1 := Lib.hid hs
  obtain ⟨bx, hbx⟩ : ∃ b, b = w.heap.size := ⟨_, rfl⟩
  have S1 := (St.start w).box hbx.symm #[.slice ao ar.length ca, .slice co cs.length cc] 29
  have hsz1 : (w.alloc (.cells #[.slice ao ar.length ca, .slice co cs.length cc] 29)).heap.size = bx + 1 := by simp [hbx]
  obtain ⟨⟨x0, _⟩, x1, _⟩ := S1.two 0
  clear ha h hp hok hf har hs
  go_enter Try.func54, Try.ntmps54
  go_wp2_with fail
  rw [← hbx]
  refine S1.gen (z := bx + 1) (by omega) ?_
  intro w1 z1 S
  have HBX := Lib.hid hbx
  clear S1 hbx hsz1 x0 x1
  refine (S.quiet (tables52 ar s HS1.out hs4 HAR.out (by omega) q ao ca (.slice co cs.length cc) w1 (HA.out.kept S.bel))).mono ?_
  rintro e w2 ⟨rfl, z2, S2⟩
  clear S
  obtain ⟨M, hM⟩ : ∃ M, tabsN s ar = M := ⟨_, rfl⟩
  have hMb : M ≤ 100000 := by rw [← hM]; exact tabsN_le
  have HM := Lib.hid (show foundF s ar cs = idxP (fun n => modelB s (numTb s ar n).1 cs) (List.range M) by unfold foundF; rw [hM])
  rw [hM]
  clear hM
  have z2' : bx + 1 ≤ w2.heap.size := by omega
  go_wp2_with fail
  go_loopw [6] (fun i wr => ∃ k : Nat, k ≤ M ∧ i = .int .i64 k ∧ (∀ (j : Nat), j < k → modelB s (numTb s ar j).1 cs = false) ∧ bx + 1 ≤ wr.heap.size ∧ St w wr [.box bx #[.slice ao ar.length ca, .slice co cs.length cc] 29]) (fun i _ => M - (intOf i).toNat)
  case atStart => exact ⟨0, by omega, rfl, fun j hj => by omega, z2', S2⟩
  case round =>
    clear S2 z2 z2'
    obtain ⟨k, hk, rfl, hno, zh, Sh⟩ := hrel
    have HNO := Lib.hid hno
    clear hno
    by_cases hlt : k < M
    · have hlti : (k : Int) < (M : Int) := by omega
      have hkb : k ≤ 1000000 := by omega
      obtain ⟨B, hB⟩ : ∃ B, modelB s (numTb s ar k).1 cs = B := ⟨_, rfl⟩
      have HBV := Lib.hid hB
      clear hB
      go_wp2_with fail
      have SD : St w wr.drew [.box bx #[.slice ao ar.length ca, .slice co cs.length cc] 29] := Sh.drew
      refine wpG_region 99 (fun W => W.cell? ⟨bx, 0, none⟩ = some (.slice ao ar.length ca) ∧ W.cell? ⟨bx, 1, none⟩ = some (.slice co cs.length cc)) (by kernel_rfl) ?_
      have HS := And.intro (SD.two 0).1.1 (SD.two 0).2.1
      refine wpG.take0 (i := 0) (by kernel_rfl) (by kernel_rfl) (by kernel_rfl) (by kernel_rfl) HS ?_
      intro oi ho
      simp only [List.getElem?_toArray, List.getElem?_cons_zero, Option.some.injEq] at ho
      subst ho
      refine ⟨?_, Or.inl ⟨by rfl, ?_⟩, fun _ _ _ h => h, ?_⟩
      rotate_left 1
      · intro W hW
        try dsimp only at hW
        go_simp
        try with_reducible rfl
      simp only [Act.put, List.setIfInBounds_toArray, List.set_cons_zero, List.set_cons_succ]
      refine wpG.take0 (i := 1) (by kernel_rfl) (by kernel_rfl) (by kernel_rfl) (by kernel_rfl) HS ?_
      intro oi ho
      simp only [List.getElem?_toArray, List.getElem?_cons_succ, List.getElem?_cons_zero, Option.some.injEq] at ho
      subst ho
      refine ⟨?_, Or.inl ⟨by rfl, ?_⟩, fun _ _ _ h => h, ?_⟩
      rotate_left 1
      · intro W hW
        try dsimp only at hW
        go_simp
        try with_reducible rfl
      simp only [Act.put, List.setIfInBounds_toArray, List.set_cons_zero, List.set_cons_succ]
      refine wpG.take0 (i := 2) (by kernel_rfl) (by kernel_rfl) (by kernel_rfl) (by kernel_rfl) HS ?_
      intro oi ho
      simp only [List.getElem?_toArray, List.getElem?_cons_succ, List.getElem?_cons_zero, Option.some.injEq] at ho
      subst ho
      refine ⟨?_, Or.inl ⟨by rfl, ?_⟩, fun _ _ _ h => h, ?_⟩
      rotate_left 1
      · intro W hW
        try dsimp only at hW
        go_simp
        try with_reducible rfl
      simp only [Act.put, List.setIfInBounds_toArray, List.set_cons_zero, List.set_cons_succ]
      refine wpG.take0 (i := 3) (by kernel_rfl) (by kernel_rfl) (by kernel_rfl) (by kernel_rfl) HS ?_
      intro oi ho
      simp only [List.getElem?_toArray, List.getElem?_cons_succ, List.getElem?_cons_zero, Option.some.injEq] at ho
      subst ho
      refine ⟨?_, Or.inl ⟨by rfl, ?_⟩, fun _ _ _ h => h, ?_⟩
      rotate_left 1
      · intro W hW
        try dsimp only at hW
        go_simp
        try with_reducible rfl
      simp only [Act.put, List.setIfInBounds_toArray, List.set_cons_zero, List.set_cons_succ]
      refine wpG.one (i := 4) (by kernel_rfl) ?_
      intro oi ho
      simp only [List.getElem?_toArray, List.getElem?_cons_succ, List.getElem?_cons_zero, Option.some.injEq] at ho
      subst ho
      intro K hK
      have HK := Lib.hid hK
      have HSH := Lib.hid HS
      clear hK HS
      go_simp
      go_at_call 55
      refine (SD.numbered (numbered55 ar s k HS1.out hs4 HAR.out hna hkb q ao ca (.slice co cs.length cc) _ (HA.out.kept SD.bel))).mono ?_
      rintro e w5 ⟨to_, ct, rfl, z5, S5⟩
      have z5 : wr.heap.size ≤ w5.heap.size := z5
      dsimp only
      refine HK.out _ _ (fun _ => And.intro (S5.two 0).1.1 (S5.two 0).2.1) ?_
      have HS := And.intro (S5.two 0).1.1 (S5.two 0).2.1
      try simp only [Act.put, List.setIfInBounds_toArray, List.set_cons_zero, List.set_cons_succ]
      refine wpG.one (i := 5) (by kernel_rfl) ?_
      intro oi ho
      simp only [List.getElem?_toArray, List.getElem?_cons_succ, List.getElem?_cons_zero, Option.some.injEq] at ho
      subst ho
      intro K hK
      have HK := Lib.hid hK
      have HSH := Lib.hid HS
      clear hK HS
      go_simp
      go_at_call 53
      refine (S5.quiet (show Calls Try.prog 53 #[.agg #[.slice ao ar.length ca, .slice co cs.length cc], .agg #[.int .i64 s, .slice to_ (numTb s ar k).1.length ((numTb s ar k).1.length + ct)]] w5 fun e w' => e = .returned (.bool B) ∧ Below w5.heap.size w5 w' from by
        have h := model53 ar cs s (numTb s ar k).1 (numTb_tabOK HS1.out hs4 HAR.out k) HOK.out p (fun b => wr.heap.size ≤ b ∧ b < w5.heap.size) co to_ (.slice ao ar.length ca) cc ct w5 (HC.out.kept S5.bel) (S5.rowE intsE 1) (fun b hb => Nat.lt_of_lt_of_le (HP.out b hb) S5.bel.size) hn HF.out
        rw [HBV.out] at h; exact h)).mono ?_
      rintro e w8 ⟨rfl, z8, S8⟩
      have z8 : w5.heap.size ≤ w8.heap.size := z8
      dsimp only
      refine HK.out _ _ (fun _ => And.intro (S8.two 0).1.1 (S8.two 0).2.1) ?_
      have HS := And.intro (S8.two 0).1.1 (S8.two 0).2.1
      try simp only [Act.put, List.setIfInBounds_toArray, List.set_cons_zero, List.set_cons_succ]
      refine wpG.done (by kernel_rfl) ?_
      have zk : bx + 1 ≤ w8.heap.size := by omega
      have S9 := S8.pick [0]
      have SE := Lib.hid S8.bel
      clear S8 S5 SD Sh
      cases B with
      | true =>
        have HF := Lib.hid (show foundF s ar cs = (k : Int) by
          rw [HM.out]
          exact idxP_hit (by simpa using hlt) (fun j x hj hx => by
            have e : x = j := by
              rw [List.getElem?_range (by omega)] at hx
              exact (Option.some.inj hx).symm
            rw [e]; exact HNO.out j hj) (by rw [List.getElem_range]; exact HBV.out))
        clear S9
        go_wp2_with fail
        go_ret
        exact ⟨ret_int HF.out.symm, SE.out⟩
      | false =>
        have HN := Lib.hid (show ∀ (j : Nat), j < k + 1 → modelB s (numTb s ar j).1 cs = false from fun j hj => by
          rcases Nat.lt_succ_iff_lt_or_eq.1 hj with h | rfl
          · exact HNO.out j h
          · exact HBV.out)
        go_wp2_with fail
        go_roundw
        case rel => exact ⟨k + 1, by omega, by go_num, HN.out, zk, S9⟩
        case measure => simp [intOf] <;> omega
    · obtain rfl : k = M := by omega
      have HF := Lib.hid (show foundF s ar cs = -1 by
        rw [HM.out]
        exact idxP_none (fun j x hj hx => by
          rw [List.getElem?_range (by simpa using hj)] at hx
          have e : j = x := Option.some.inj hx
          rw [← e]; exact HNO.out j (by simpa using hj)))
      have SE := Lib.hid Sh.bel
      clear Sh
      go_wp2_with fail
      go_ret
      exact ⟨ret_int HF.out.symm, SE.out⟩
end Go.Proofs.Yteekoclfpehnpaa
namespace Go.Proofs.Yteekoclfpehnpaa
open Go.RowKit Go.Shelf
set_option linter.unusedVariables false
set_option maxHeartbeats 400000

set_option maxRecDepth 100000 in
theorem contC (fn : Nat) (cap : Array Value) (eg : ∀ args w, (callFunc fn args).run Try.prog w = .ok (.enter fn args) w)
    (p : Nat → Prop) (ao : Option Addr) (xs : List (List Fc)) (cp : Nat) (P : (List Fc) → Bool) (w : World) (hn : xs.length ≤ maxLen) (hc : claimE.Row p w ao xs)
    (hf : ∀ (i : Nat) x k sp w1, xs[i]? = some x → Below w.heap.size w w1 → factE.Row p w1 k x → x.length ≤ maxLen → Calls Try.prog fn (#[.agg #[.slice k x.length (x.length + sp)]] ++ cap) w1 fun e w2 => e = .returned (.bool (P x)) ∧ Below w1.heap.size w1 w2) :
    Calls Try.prog 117 #[.slice ao xs.length cp, .func (.func fn) #[] cap] w fun e w' => e = .returned (.bool (xs.any P)) ∧ Below w.heap.size w w' := by
  have H := Lib.hid (idxC fn cap eg p ao xs cp P w hn hc hf)
  clear hf hc eg hn
  go_enter Try.func117, Try.ntmps117
  go_wp2_with fail
  refine H.out.mono ?_
  rintro e w1 ⟨rfl, hb1⟩
  go_wp2
  go_ret
  refine ⟨ret_bool ?_, hb1⟩
  rw [Bool.eq_iff_iff, ← idxP_any]; simp

set_option maxRecDepth 100000 in
set_option maxHeartbeats 4000000 in
theorem true118 (ar : List Int) (s : Nat) (tb : List (List Int)) (hT : TabOK ar s tb) (fs : List Fc) (hok : codeF ar fs = 0) (p r : Nat → Prop) (to_ k : Option Addr) (ct sp bp bs : Nat) (av cv fv : Value) (w : World)
    (h0 : w.heap[bp]? = some (.cells #[.pointer (some ⟨bs, 0, none⟩)] 127 (0, 0))) (h1 : w.heap[bs]? = some (.cells #[av, cv, .int .i64 s, .slice to_ tb.length (tb.length + ct), fv] 129 (0, 0))) (hrow : intsE.Row r w to_ tb) (h : factE.Row p w k fs) :
    Calls Try.prog 118 #[.agg #[.slice k fs.length (fs.length + sp)], .pointer (some ⟨bp, 0, none⟩)] w fun e w' => e = .returned (.bool (!(trueF s tb fs))) ∧ Below w.heap.size w w' := by
  have HR := Lib.hid hrow; have HC := Lib.hid h
  obtain ⟨bx, hbx⟩ : ∃ b, b = w.heap.size := ⟨_, rfl⟩
  have S1 := (((St.start w).add (.box bp #[.pointer (some ⟨bs, 0, none⟩)] 127) h0).add (.box bs #[av, cv, .int .i64 s, .slice to_ tb.length (tb.length + ct), fv] 129) h1).box hbx.symm #[.slice k fs.length (fs.length + sp)] 24
  clear h0 h1 hrow h
  go_enter Try.func118, Try.ntmps118
  go_wp2_with fail
  rw [← hbx]
  refine S1.genC (z := 0) (by omega) ?_
  intro w1 z1 S
  clear S1 hbx
  obtain ⟨x0, _⟩ := S.one 0
  obtain ⟨y0, _⟩ := S.one 2
  obtain ⟨c2, _⟩ := S.cell 1 2 rfl
  obtain ⟨c3, _⟩ := S.cell 1 3 rfl
  have CA := Lib.hid (fun d os => Calls.regrown_of (true78 ar s tb hT fs hok p r to_ k ct sp (Go.Sort.grow (redrawn w1 d) os) (HR.out.kept (S.regrown d os).bel) (HC.out.kept (S.regrown d os).bel)))
  obtain ⟨B, hB⟩ : ∃ B, B = trueF s tb fs := ⟨_, rfl⟩
  rw [← hB] at CA
  have HB := Lib.hid hB
  clear hB
  have r0 := cell_regrown x0; have r1 := cell_regrown y0; have r2 := cell_regrown c2; have r3 := cell_regrown c3
  clear x0 y0 c2 c3
  refine wp_region_quiet_below (by kernel_rfl) (by kernel_rfl) ?_
  repeat (go_big_quiet_step (first | with_reducible exact CA.out _ _))
  refine wpQuiet_nil ?_
  intro _ hw'
  obtain ⟨⟨dq, osq⟩, hw''⟩ := hw'
  subst hw''
  have SE := Lib.hid (S.regrown dq osq).bel
  clear r0 r1 r2 r3 CA S
  go_wp2_with fail
  go_ret
  exact ⟨ret_bool (by rw [← HB.out]), SE.out⟩
end Go.Proofs.Yteekoclfpehnpaa
namespace Go.Proofs.Yteekoclfpehnpaa
open Go.RowKit Go.Shelf
set_option linter.unusedVariables false
set_option maxHeartbeats 400000

/-- the values from x on are tried, r of them -/
def tryG (rec : Nat → Nat → Int × Nat × List Int) : Nat → Nat → Nat → Int × Nat × List Int
  | 0, _, f => (2, f, [])
  | _ + 1, _, 0 => (3, 0, [])
  | r + 1, x, f + 1 => if (rec x f).1 = 2 then tryG rec r (x + 1) (rec x f).2.1 else rec x f
/-- the search over M cells behind those of pre -/
def atG (s : Nat) (Q : List Int → Bool) : Nat → List Int → Nat → Int × Nat × List Int
  | 0, pre, f => (if Q pre then 1 else 2, f, pre)
  | M + 1, pre, f => tryG (fun x f => atG s Q M (pre ++ [(x : Int)]) f) s 0 f
/-- the rows of a table have the lengths that the signs ask -/
def Shaped (s : Nat) (ar : List Int) (T : List (List Int)) : Prop := T.length = ar.length ∧ ∀ (i : Nat) a l, ar[i]? = some a → T[i]? = some l → l.length = s ^ a.toNat
def unfl (s : Nat) : List Int → List Int → List (List Int)
  | [], _ => []
  | a :: r, c => c.take (s ^ a.toNat) :: unfl s r (c.drop (s ^ a.toNat))
theorem Shaped.tl {s : Nat} {a : Int} {ar : List Int} {l : List Int} {T : List (List Int)} (h : Shaped s (a :: ar) (l :: T)) : Shaped s ar T :=
  ⟨by have := h.1; simpa using this, fun i b m h1 h2 => h.2 (i + 1) b m (by simpa using h1) (by simpa using h2)⟩
theorem unfl_flat {s : Nat} : ∀ {ar : List Int} {T : List (List Int)}, Shaped s ar T → unfl s ar T.flatten = T
  | [], T, h => by
    have := h.1
    obtain rfl := List.eq_nil_of_length_eq_zero (by simpa using this)
    rfl
  | a :: ar, [], h => by have := h.1; simp at this
  | a :: ar, l :: T, h => by
    have h1 := h.2 0 a l rfl rfl
    rw [unfl, List.flatten_cons, ← h1, List.take_left, List.drop_left, unfl_flat h.tl]
theorem flat_take {s : Nat} : ∀ {ar : List Int} {T : List (List Int)} (k : Nat), Shaped s ar T → (T.take k).flatten.length = cellTot s (ar.take k)
  | [], T, k, h => by
    have := h.1
    obtain rfl := List.eq_nil_of_length_eq_zero (by simpa using this)
    simp [cellTot]
  | a :: ar, [], k, h => by have := h.1; simp at this
  | a :: ar, l :: T, 0, h => by simp [cellTot]
  | a :: ar, l :: T, k + 1, h => by
    have h1 := h.2 0 a l rfl rfl
    rw [List.take_succ_cons, List.take_succ_cons, List.flatten_cons, List.length_append, cellTot, flat_take k h.tl, h1]
theorem flat_len {s : Nat} {ar : List Int} {T : List (List Int)} (h : Shaped s ar T) : T.flatten.length = cellTot s ar := by
  have := flat_take ar.length h
  rwa [List.take_of_length_le (by rw [h.1]; omega), List.take_length] at this
theorem flatten_set {x : Int} {j : Nat} : ∀ {T : List (List Int)} {k : Nat} {l : List Int}, T[k]? = some l → j < l.length → (T.set k (l.set j x)).flatten = T.flatten.set ((T.take k).flatten.length + j) x
  | [], k, l, h, _ => by simp at h
  | m :: T, 0, l, h, hj => by
    have e : m = l := by simpa using h
    subst e
    simp [List.set_append_left, hj]
  | m :: T, k + 1, l, h, hj => by
    rw [List.set_cons_succ, List.flatten_cons, flatten_set (by simpa using h) hj, List.take_succ_cons, List.flatten_cons, List.flatten_cons, List.length_append, List.set_append, if_neg (by omega)]
    congr 2; omega
theorem take_set {l : List Int} {p : Nat} {x : Int} (hp : p < l.length) : (l.set p x).take (p + 1) = l.take p ++ [x] := by
  rw [List.take_succ_eq_append_getElem (by simpa using hp), List.getElem_set_self, List.take_set_of_le (by omega)]
theorem TabOK.shaped {ar : List Int} {s : Nat} {T : List (List Int)} (h : TabOK ar s T) : Shaped s ar T := ⟨h.2.2.1, fun i a l h1 h2 => (h.2.2.2 i a l h1 h2).2.2.1⟩
theorem TabOK.set {ar : List Int} {s : Nat} {T : List (List Int)} (h : TabOK ar s T) {k j : Nat} {l : List Int} (hl : T[k]? = some l) {x : Nat} (hx : x < s) : TabOK ar s (T.set k (l.set j (x : Int))) := by
  refine ⟨h.1, h.2.1, by rw [List.length_set]; exact h.2.2.1, fun i a m h1 h2 => ?_⟩
  rw [List.getElem?_set] at h2
  split at h2
  · rename_i e
    subst e
    split at h2
    · obtain rfl := Option.some.inj h2
      obtain ⟨a1, a2, a3, a4⟩ := h.2.2.2 k a l h1 hl
      refine ⟨a1, a2, by simpa using a3, fun y hy => ?_⟩
      rcases List.mem_or_eq_of_mem_set hy with hy | rfl
      · exact a4 y hy
      · omega
    · cases h2
  · exact h.2.2.2 i a m h1 h2
/-- do all claims hold in a table whose cells are these? -/
noncomputable def holdsC (s : Nat) (ar : List Int) (cs : List (List Fc)) (c : List Int) : Bool := cs.all (trueF s (unfl s ar c))
theorem any_not {s : Nat} {ar : List Int} {cs : List (List Fc)} {T : List (List Int)} (h : TabOK ar s T) : cs.any (fun c => !(trueF s T c)) = !(holdsC s ar cs T.flatten) := by
  unfold holdsC
  rw [unfl_flat h.shaped, List.not_all_eq_any_not]
/-- what the search leaves -/
structure AtPost (s : Nat) (ar : List Int) (cs : List (List Fc)) (M : Nat) (pre : List Int) (f : Nat) (st : Int) (f' : Nat) (T' : List (List Int)) : Prop where
  hst : (atG s (holdsC s ar cs) M pre f).1 = st
  hfu : (atG s (holdsC s ar cs) M pre f).2.1 = f'
  ok : TabOK ar s T'
  pr : T'.flatten.take pre.length = pre
  hfd : st = 1 → T'.flatten = (atG s (holdsC s ar cs) M pre f).2.2
theorem tryG_le {rec : Nat → Nat → Int × Nat × List Int} (h : ∀ x f, (rec x f).2.1 ≤ f) : ∀ r x f, (tryG rec r x f).2.1 ≤ f
  | 0, x, f => Nat.le_refl _
  | r + 1, x, 0 => Nat.le_refl _
  | r + 1, x, f + 1 => by
    rw [tryG]
    split
    · have h1 := tryG_le h r (x + 1) (rec x f).2.1
      have h2 := h x f
      omega
    · have h2 := h x f
      omega
theorem atG_le {s : Nat} {Q : List Int → Bool} : ∀ M pre f, (atG s Q M pre f).2.1 ≤ f
  | 0, pre, f => Nat.le_refl _
  | M + 1, pre, f => tryG_le (fun x f => atG_le M _ f) _ _ _
end Go.Proofs.Yteekoclfpehnpaa
namespace Go.Proofs.Yteekoclfpehnpaa
open Go.RowKit Go.Shelf
set_option linter.unusedVariables false
set_option maxHeartbeats 400000

/-- a slice's head over a whole block, the block and the length -/
def hdrE : Elt (Nat × Nat) where
  ty := 27
  n := 1
  is p w cs h := cs = [.slice (some ⟨h.1, 0, none⟩) h.2 h.2]
  pos := by omega
  len := fun e => by rw [e]; rfl
  one := fun e u hu => by rw [e] at hu; simp at hu; subst hu; rfl
  keep := fun hk e => e
theorem Elt.Row.hdr {p : Nat → Prop} {w : World} {ao : Option Addr} {hs : List (Nat × Nat)} (h : hdrE.Row p w ao hs) {i g n : Nat} (hi : hs[i]? = some (g, n)) : ∃ b off, ao = some ⟨b, off, none⟩ ∧ p b ∧ w.cell? ⟨b, off + i, none⟩ = some (.slice (some ⟨g, 0, none⟩) n n) := by
  obtain ⟨b, off, c, e, hp, hc, rfl⟩ := h i _ hi
  exact ⟨b, off, e, hp, by have := hc 0 _ rfl; simpa [hdrE] using this⟩
/-- rows of integers, each a block of its own -/
def Fct.cellsOf (gs : List Nat) (T : List (List Int)) : Fct :=
  ⟨fun c => c ∈ gs, fun w => ∀ (i : Nat) g row, gs[i]? = some g → T[i]? = some row → w.heap[g]? = some (.cells (tc row) 3 (0, 0)), fun w w' h ht i g row h1 h2 => by
    have h3 := ht i g row h1 h2
    rw [h g (List.mem_of_getElem? h1) (heap_lt h3)]; exact h3⟩
theorem St.cellsOf {w0 w : World} {l : List Fct} (S : St w0 w l) (i : Nat) {gs : List Nat} {T : List (List Int)} (h : Fct.at l i = Fct.cellsOf gs T := by rfl) : ∀ (i : Nat) g row, gs[i]? = some g → T[i]? = some row → w.heap[g]? = some (.cells (tc row) 3 (0, 0)) := by
  have := S.2 i
  rw [h] at this; exact this
theorem St.setRow {w0 w : World} {l : List Fct} (S : St w0 w l) (i : Nat) {gs : List Nat} {T : List (List Int)} (hi : Fct.at l i = Fct.cellsOf gs T) {k g j : Nat} {row : List Int} (hg : gs[k]? = some g) (hT : T[k]? = some row) (hnd : gs.Nodup) (u : Int) (h0 : w0.heap.size ≤ g) (hoff : offs g i l) :
    St w0 (w.setCell ⟨g, j, none⟩ (.int .i64 u)) (fset l i (.cellsOf gs (T.set k (row.set j u)))) := by
  refine ⟨S.1.setCell (p := ⟨g, j, none⟩) h0 _, fun m => ?_⟩
  by_cases hm : m = i
  · subst hm
    rcases at_fset_same (.cellsOf gs (T.set k (row.set j u))) l m with h | h
    · rw [h]
      intro n gn rn h1 h2
      have hh := S.cellsOf m hi
      by_cases hgn : gn = g
      · subst hgn
        have hnk : n = k := by
          have e := h1.trans hg.symm
          exact (List.getElem?_inj (List.getElem?_eq_some_iff.1 h1).1 hnd).1 e
        subst hnk
        have hlt := (List.getElem?_eq_some_iff.1 hT).1
        rw [List.getElem?_set_self hlt] at h2
        obtain rfl := Option.some.inj h2
        have h3 := hh n gn row hg hT
        rw [← tc_set]
        simp [World.setCell, Array.getElem?_modify, h3]
      · have hnk : n ≠ k := fun e => by
          subst e
          exact hgn (Option.some.inj (h1.symm.trans hg))
        rw [List.getElem?_set_ne (fun e => hnk e.symm)] at h2
        exact (Below.heap_setCell _ _ _ _ hgn).trans (hh n gn rn h1 h2)
    · rw [h]; trivial
  · rw [at_fset_other _ _ _ _ hm]
    exact (Fct.at l m).stable w _ (fun c hc _ => Below.heap_setCell _ _ _ _ (fun e => offs_at hoff m hm (by have e' : c = g := e; rw [← e']; exact hc))) (S.2 m)
/-- the heads of a table's rows -/
def headsT (s : Nat) : List Nat → List Int → List (Nat × Nat)
  | g :: gs, a :: ar => (g, s ^ a.toNat) :: headsT s gs ar
  | _, _ => []
theorem headsT_at {s : Nat} : ∀ {gs : List Nat} {ar : List Int} {k g : Nat} {a : Int}, gs[k]? = some g → ar[k]? = some a → (headsT s gs ar)[k]? = some (g, s ^ a.toNat)
  | [], ar, k, g, a, h, _ => by simp at h
  | x :: gs, [], k, g, a, _, h => by simp at h
  | x :: gs, b :: ar, 0, g, a, h, h2 => by simp at h h2; subst h h2; rfl
  | x :: gs, b :: ar, k + 1, g, a, h, h2 => by rw [headsT, List.getElem?_cons_succ]; exact headsT_at (by simpa using h) (by simpa using h2)
theorem headsT_len {s : Nat} : ∀ {gs : List Nat} {ar : List Int}, gs.length = ar.length → (headsT s gs ar).length = ar.length
  | [], [], _ => rfl
  | [], _ :: _, h => by simp at h
  | _ :: _, [], h => by simp at h
  | x :: gs, b :: ar, h => by rw [headsT, List.length_cons, List.length_cons, headsT_len (by simpa using h)]
/-- the table reads as rows of integers -/
theorem rowsOf {s : Nat} {ar : List Int} {gs : List Nat} {T : List (List Int)} {pt : Nat → Prop} {to_ : Option Addr} {w : World} (hsh : Shaped s ar T) (hgl : gs.length = ar.length) (hb : ∀ (i : Nat) l, T[i]? = some l → l.length ≤ maxLen) (hr : hdrE.Row pt w to_ (headsT s gs ar))
    (hc : ∀ (i : Nat) g row, gs[i]? = some g → T[i]? = some row → w.heap[g]? = some (.cells (tc row) 3 (0, 0))) : intsE.Row (fun b => pt b ∨ b ∈ gs) w to_ T := fun i row hi => by
  have hiT := (List.getElem?_eq_some_iff.1 hi).1
  have h1 : gs[i]? = some (gs[i]'(by rw [hgl, ← hsh.1]; exact hiT)) := List.getElem?_eq_getElem _
  have h2 : ar[i]? = some (ar[i]'(by rw [← hsh.1]; exact hiT)) := List.getElem?_eq_getElem _
  have h3 := headsT_at (s := s) h1 h2
  have h4 := hsh.2 i _ _ h2 hi
  obtain ⟨b, off, c, e, hp, hcl, hce⟩ := hr i _ h3
  refine ⟨b, off, c, e, .inl hp, fun j u hu => hcl j u hu, ?_⟩
  rw [show c = _ from hce]
  exact ⟨some ⟨gs[i]'(by rw [hgl, ← hsh.1]; exact hiT), 0, none⟩, 0, by rw [h4]; rfl, row_tc (.inr (List.mem_of_getElem? h1)) (hc i _ row h1 hi), hb i row hi⟩
theorem St.drop3 {w0 w : World} {a b c d : Fct} {r : List Fct} (S : St w0 w (a :: b :: c :: d :: r)) : St w0 w (a :: b :: c :: r) := ⟨S.1, fun i => match i with
  | 0 => S.2 0
  | 1 => S.2 1
  | 2 => S.2 2
  | i + 3 => S.2 (i + 4)⟩
theorem rowlen64 {ar : List Int} {s : Nat} {T : List (List Int)} (h : TabOK ar s T) {i : Nat} {l : List Int} (hl : T[i]? = some l) : l.length ≤ 64 := by
  have hi := (List.getElem?_eq_some_iff.1 hl).1
  have hia : i < ar.length := by rw [← h.2.2.1]; exact hi
  obtain ⟨a1, a2, a3, _⟩ := h.2.2.2 i _ l (List.getElem?_eq_getElem hia) hl
  rw [a3]
  have h1 : s ^ ar[i].toNat ≤ 4 ^ ar[i].toNat := Nat.pow_le_pow_left h.2.1 _
  have h2 : 4 ^ ar[i].toNat ≤ 4 ^ 3 := Nat.pow_le_pow_right (by omega) (by omega)
  have h3 : (4 : Nat) ^ 3 = 64 := by decide
  omega
set_option maxRecDepth 100000 in
set_option maxHeartbeats 8000000 in
theorem at97 (ar : List Int) (s : Nat) (cs : List (List Fc)) (hok : ∀ c ∈ cs, codeF ar c = 0) (hn : cs.length ≤ 1000000) (hna : ar.length ≤ 1000) (p pt : Nat → Prop) (co to_ : Option Addr) (cc ct : Nat) (av : Value) (gs : List Nat) (hgl : gs.length = ar.length) (hnd : gs.Nodup) (bs : Nat) (w0 : World) (h0 : w0.heap.size ≤ bs) (hg0 : ∀ g ∈ gs, w0.heap.size ≤ g)
    (hbg : bs ∉ gs) (hptb : ¬ pt bs) (hptg : ∀ g ∈ gs, ¬ pt g) (hrow : claimE.Row p w0 co cs) :
    ∀ (gas sign entry M : Nat), M + (ar.length - sign) = gas → sign ≤ ar.length → cellTot s (ar.take sign) + entry + M = cellTot s ar → (∀ a, ar[sign]? = some a → entry ≤ s ^ a.toNat) →
    ∀ (T : List (List Int)) (f : Nat) (w : World) (r : List Fct), TabOK ar s T → f ≤ 2000 → offAll bs r → (∀ g ∈ gs, offAll g r) → St w0 w (.box bs #[av, .slice co cs.length cc, .int .i64 s, .slice to_ ar.length (ar.length + ct), .int .i64 (f : Nat)] 129 :: .rowE hdrE pt to_ (headsT s gs ar) :: .cellsOf gs T :: r) →
    Calls Try.prog 97 #[.pointer (some ⟨bs, 0, none⟩), .int .i64 sign, .int .i64 entry] w fun e w' => ∃ st f' T', e = .returned (.int .i64 st) ∧ w.heap.size ≤ w'.heap.size ∧ AtPost s ar cs M (T.flatten.take (cellTot s (ar.take sign) + entry)) f st f' T' ∧ St w0 w' (.box bs #[av, .slice co cs.length cc, .int .i64 s, .slice to_ ar.length (ar.length + ct), .int .i64 (f' : Nat)] 129 :: .rowE hdrE pt to_ (headsT s gs ar) :: .cellsOf gs T' :: r) := by
  have HOK := Lib.hid hok; have HGL := Lib.hid hgl; have HND := Lib.hid hnd; have H0 := Lib.hid h0; have HG0 := Lib.hid hg0; have HBG := Lib.hid hbg; have HPB := Lib.hid hptb; have HPG := Lib.hid hptg; have HC := Lib.hid hrow
  have hcs63 : cs.length ≤ 9223372036854775807 := by omega
  clear hok hgl hnd h0 hg0 hbg hptb hptg hrow
  intro gas
  induction gas with
  | zero =>
    intro sign entry M hgas hsl hM hent T f w r hT hf hobs hogs S
    obtain rfl : sign = ar.length := by omega
    obtain rfl : M = 0 := by omega
    rw [List.take_length] at hM ⊢
    obtain rfl : entry = 0 := by omega
    have HT := Lib.hid hT; have HGS := Lib.hid hogs; have HBS := Lib.hid hobs
    have hTl : T.length = ar.length := hT.2.2.1
    have hTf : T.flatten.take (cellTot s ar + 0) = T.flatten := List.take_of_length_le (by rw [flat_len hT.shaped]; omega)
    have HTF := Lib.hid hTf
    obtain ⟨bx, hbx⟩ : ∃ b, b = w.heap.size := ⟨_, rfl⟩
    have HBX := Lib.hid (show bs < bx ∧ w.heap.size ≤ bx by have := S.lt 0; omega)
    have S1 : St w0 (w.alloc (.cells #[.pointer (some ⟨bs, 0, none⟩)] 127)) (.box bs #[av, .slice co cs.length cc, .int .i64 s, .slice to_ ar.length (ar.length + ct), .int .i64 (f : Nat)] 129 :: .rowE hdrE pt to_ (headsT s gs ar) :: .cellsOf gs T :: .box bx #[.pointer (some ⟨bs, 0, none⟩)] 127 :: r) := (S.boxH hbx.symm #[.pointer (some ⟨bs, 0, none⟩)] 127).back 3
    have hsz1 : (w.alloc (.cells #[.pointer (some ⟨bs, 0, none⟩)] 127)).heap.size = bx + 1 := by simp [hbx]
    have HWS := Lib.hid hbx
    clear S hT hobs hogs hTf hgas hM hent hsl
    go_enter Try.func97, Try.ntmps97
    go_upto_region 1 with (fail)
    rw [← hbx]
    refine S1.genC (z := bx + 1) (by omega) ?_
    intro w1 z1 S
    clear S1 hbx hsz1
    obtain ⟨x0, _⟩ := S.one 3
    obtain ⟨c1, _⟩ := S.cell 0 1 rfl
    obtain ⟨c3, _⟩ := S.cell 0 3 rfl
    go_wp2_with fail
    refine (S.quiet (contC 118 #[.pointer (some ⟨bx, 0, none⟩)] (enters_of Try.func118 (by kernel_rfl) rfl) p co cs cc (fun c => !(trueF s T c)) w1 (by unfold maxLen; omega) (HC.out.kept S.bel) (fun i x k sp w2 hx hb hr hm =>
      true118 ar s T HT.out x (HOK.out x (List.mem_of_getElem? hx)) p (fun b => pt b ∨ b ∈ gs) to_ k ct sp bx bs av (.slice co cs.length cc) (.int .i64 (f : Nat)) w2 (Below.heapAt hb (S.block 3)) (by rw [hTl]; exact Below.heapAt hb (S.block 0))
        ((rowsOf HT.out.shaped HGL.out (fun i l hl => Nat.le_trans (rowlen64 HT.out hl) (by decide)) (S.rowE hdrE 1) (S.cellsOf 2)).kept hb) hr))).mono ?_
    rintro e w2 ⟨rfl, z2, S2⟩
    rw [any_not HT.out]
    have S3 := S2.drop3
    have z3 : w.heap.size ≤ w2.heap.size := by have := HBX.out; omega
    clear S S2 x0 c1 c3
    obtain ⟨B, hB⟩ : ∃ B, holdsC s ar cs T.flatten = B := ⟨_, rfl⟩
    rw [hB]
    have HBB := Lib.hid hB
    clear hB
    cases B with
    | true =>
      go_wp2_with fail
      go_ret
      refine ⟨1, f, T, rfl, z3, ⟨?_, rfl, HT.out, ?_, fun _ => ?_⟩, S3⟩
      · show (if holdsC s ar cs _ = true then (1 : Int) else 2) = 1
        rw [HTF.out, HBB.out]; rfl
      · rw [HTF.out, List.take_length]
      · exact HTF.out.symm
    | false =>
      go_wp2_with fail
      go_ret
      refine ⟨2, f, T, rfl, z3, ⟨?_, rfl, HT.out, ?_, fun h => absurd h (by decide)⟩, S3⟩
      · show (if holdsC s ar cs _ = true then (1 : Int) else 2) = 2
        rw [HTF.out, HBB.out]; rfl
      · rw [HTF.out, List.take_length]
  | succ gas ih =>
    intro sign entry M hgas hsl hM hent T f w r hT hf hobs hogs S
    have IH := Lib.hid ih
    clear ih
    have hslt : sign < ar.length := by
      rcases Nat.lt_or_ge sign ar.length with h | h
      · exact h
      · rw [List.take_of_length_le h] at hM; omega
    have HT := Lib.hid hT; have HGS := Lib.hid hogs; have HBS := Lib.hid hobs
    have hTl : T.length = ar.length := hT.2.2.1
    obtain ⟨a, ha⟩ : ∃ a, a = ar[sign] := ⟨_, rfl⟩
    have HA := Lib.hid (show ar[sign]? = some a by rw [ha]; exact List.getElem?_eq_getElem hslt)
    obtain ⟨g, hg⟩ : ∃ g, g = gs[sign]'(by rw [HGL.out]; exact hslt) := ⟨_, rfl⟩
    have HG := Lib.hid (show gs[sign]? = some g by rw [hg]; exact List.getElem?_eq_getElem _)
    obtain ⟨n, hn0⟩ : ∃ n, n = s ^ a.toNat := ⟨_, rfl⟩
    have HN := Lib.hid hn0
    have hen : entry ≤ n := by rw [hn0]; exact hent a HA.out
    have HCT := Lib.hid (show cellTot s (ar.take (sign + 1)) = cellTot s (ar.take sign) + n by rw [cellTot_take HA.out, hn0])
    have HHD := Lib.hid (show (headsT s gs ar)[sign]? = some (g, n) by rw [hn0]; exact headsT_at HG.out HA.out)
    have HRL := Lib.hid (show ∀ T' : List (List Int), TabOK ar s T' → ∃ row, T'[sign]? = some row ∧ row.length = n from fun T' hT' => by
      have h1 : sign < T'.length := by rw [hT'.2.2.1]; exact hslt
      exact ⟨T'[sign], List.getElem?_eq_getElem h1, by rw [hn0]; exact (hT'.2.2.2 sign a _ HA.out (List.getElem?_eq_getElem h1)).2.2.1⟩)
    have hn64 : n ≤ 64 := by
      obtain ⟨row, h1, h2⟩ := HRL.out T hT
      rw [← h2]; exact rowlen64 hT h1
    have hs4 : s ≤ 4 := hT.2.1
    obtain ⟨bx, hbx⟩ : ∃ b, b = w.heap.size := ⟨_, rfl⟩
    have HBX := Lib.hid (show bs < bx ∧ w.heap.size ≤ bx by have := S.lt 0; omega)
    have HGX := Lib.hid (show ∀ g ∈ gs, g < bx from fun g hg => by
      obtain ⟨i, hi⟩ := List.mem_iff_getElem?.1 hg
      have h1 : i < T.length := by rw [hTl, ← HGL.out]; exact (List.getElem?_eq_some_iff.1 hi).1
      rw [hbx]; exact heap_lt (S.cellsOf 2 rfl i g _ hi (List.getElem?_eq_getElem h1)))
    have HOB := Lib.hid (show offAll bs (.box bx #[.pointer (some ⟨bs, 0, none⟩)] 127 :: r) from ⟨by have := HBX.out.1; show ¬ bs = bx; omega, hobs⟩)
    have HOG := Lib.hid (show ∀ g ∈ gs, offAll g (.box bx #[.pointer (some ⟨bs, 0, none⟩)] 127 :: r) from fun g hg => ⟨by have := HGX.out g hg; show ¬ g = bx; omega, hogs g hg⟩)
    have S1 : St w0 (w.alloc (.cells #[.pointer (some ⟨bs, 0, none⟩)] 127)) (.box bs #[av, .slice co cs.length cc, .int .i64 s, .slice to_ ar.length (ar.length + ct), .int .i64 (f : Nat)] 129 :: .rowE hdrE pt to_ (headsT s gs ar) :: .cellsOf gs T :: .box bx #[.pointer (some ⟨bs, 0, none⟩)] 127 :: r) := (S.boxH hbx.symm #[.pointer (some ⟨bs, 0, none⟩)] 127).back 3
    have hsz1 : (w.alloc (.cells #[.pointer (some ⟨bs, 0, none⟩)] 127)).heap.size = bx + 1 := by simp [hbx]
    have hneb : ((sign : Int) == (ar.length : Int)) = false := by simp; omega
    have hna63 : ar.length ≤ 1000 := hna
    have hslti : (sign : Int) < (ar.length : Int) := by omega
    clear S hT hobs hogs ha hg hn0 hent
    go_enter Try.func97, Try.ntmps97
    go_upto_region 1 with (fail)
    rw [← hbx]
    refine S1.genC (z := bx + 1) (by omega) ?_
    intro w1 z1 S
    clear S1 hbx hsz1
    obtain ⟨x0, _⟩ := S.one 3
    obtain ⟨c2, _⟩ := S.cell 0 2 rfl
    obtain ⟨c3, _⟩ := S.cell 0 3 rfl
    obtain ⟨bt, offt, rfl, hpt, d0⟩ := (S.rowE hdrE 1).hdr HHD.out
    have HD := Lib.hid hpt
    clear hpt
    by_cases he : entry = n
    · subst he
      have hw : IntKind.i64.wrap ((sign : Int) + 1) = ((sign + 1 : Nat) : Int) := by rw [IntWalk.i64_in _ (by omega)]; omega
      have HI := IH.out (sign + 1) 0 M (by omega) (by omega) (by rw [HCT.out]; omega) (fun a _ => Nat.zero_le _) T f w1 (.box bx #[.pointer (some ⟨bs, 0, none⟩)] 127 :: r) HT.out hf HOB.out HOG.out S
      go_wp2_with fail
      refine HI.mono ?_
      rintro e w2 ⟨st, f2, T2, rfl, z2, hpost, S2⟩
      have HPO := Lib.hid hpost
      have S3 := Lib.hid S2.drop3
      have z3 : w.heap.size ≤ w2.heap.size := by have := HBX.out; omega
      clear S S2 HI hpost x0 c2 c3 d0
      go_wp2_with fail
      go_ret
      refine ⟨st, f2, T2, rfl, z3, ?_, S3.out⟩
      have h := HPO.out
      rw [HCT.out, Nat.add_zero] at h
      exact h
    · have hlt : entry < n := by omega
      have hlti : (entry : Int) < (n : Int) := by omega
      have heb : ((entry : Int) == (n : Int)) = false := by simp; omega
      obtain ⟨M1, rfl⟩ : ∃ M1, M = M1 + 1 := ⟨M - 1, by
        have h1 := cellTot_take_le (s := s) ar (sign + 1)
        rw [HCT.out] at h1; omega⟩
      obtain ⟨pr, hpr⟩ : ∃ pr, pr = T.flatten.take (cellTot s (ar.take sign) + entry) := ⟨_, rfl⟩
      have HPR := Lib.hid hpr
      have HPL := Lib.hid (show pr.length = cellTot s (ar.take sign) + entry by
        rw [hpr, List.length_take, flat_len HT.out.shaped]
        omega)
      obtain ⟨rec, hrec⟩ : ∃ rec : Nat → Nat → Int × Nat × List Int, rec = fun (x f : Nat) => atG s (holdsC s ar cs) M1 (pr ++ [((x : Nat) : Int)]) f := ⟨_, rfl⟩
      have HATG := Lib.hid (show atG s (holdsC s ar cs) (M1 + 1) pr f = tryG rec s 0 f by rw [hrec]; rfl)
      have HREC := Lib.hid (show ∀ (x f : Nat), rec x f = atG s (holdsC s ar cs) M1 (pr ++ [((x : Nat) : Int)]) f from fun x f => by rw [hrec])
      have HM := Lib.hid (show cellTot s (ar.take sign) + (entry + 1) + M1 = cellTot s ar by omega)
      clear he hpr hrec hM
      go_wp2_with fail
      have z1' : bx + 1 ≤ w1.heap.size := z1
      clear x0 c2 c3 d0
      go_loopw [44] (fun i wr => ∃ (x f1 : Nat) (T1 : List (List Int)), x ≤ s ∧ i = .int .i64 x ∧ f1 ≤ 2000 ∧ Hid (tryG rec s 0 f = tryG rec (s - x) x f1) ∧ Hid (TabOK ar s T1) ∧ Hid (T1.flatten.take pr.length = pr) ∧ bx + 1 ≤ wr.heap.size ∧ St w0 wr (.box bs #[av, .slice co cs.length cc, .int .i64 s, .slice (some ⟨bt, offt, none⟩) ar.length (ar.length + ct), .int .i64 (f1 : Nat)] 129 :: .rowE hdrE pt (some ⟨bt, offt, none⟩) (headsT s gs ar) :: .cellsOf gs T1 :: .box bx #[.pointer (some ⟨bs, 0, none⟩)] 127 :: r)) (fun i _ => s - (intOf i).toNat)
      case atStart => exact ⟨0, f, T, by omega, rfl, hf, rfl, HT.out, by show _ = _; rw [HPL.out, HPR.out], z1, S⟩
      case round =>
        clear S z1 z1'
        obtain ⟨x, f1, T1, hx, rfl, hf1, HTR, HT1, HP1, zr, Sr⟩ := hrel
        by_cases hxs : x < s
        · have hxsi : (x : Int) < (s : Int) := by omega
          obtain ⟨x0, _⟩ := Sr.one 3
          obtain ⟨c4, c4f⟩ := Sr.cell 0 4 rfl
          rcases f1 with _ | f2
          · have HPO := Lib.hid (show AtPost s ar cs (M1 + 1) pr f 3 0 T1 from by
              obtain ⟨r1, hr1⟩ : ∃ r1, s - x = r1 + 1 := ⟨s - x - 1, by omega⟩
              have e : atG s (holdsC s ar cs) (M1 + 1) pr f = (3, 0, []) := by rw [HATG.out, HTR.out, hr1, tryG]
              exact ⟨by rw [e], by rw [e], HT1.out, HP1.out, fun h => absurd h (by decide)⟩)
            have S3 := Lib.hid Sr.drop3
            have z3 : w.heap.size ≤ wr.heap.size := by have := HBX.out; omega
            clear Sr
            go_wp2_with fail
            go_ret
            exact ⟨3, 0, T1, rfl, z3, by rw [← HPR.out]; exact HPO.out, S3.out⟩
          · have hfb : (((f2 + 1 : Nat) : Int) == 0) = false := by simp; omega
            have hw1 : IntKind.i64.wrap (((f2 + 1 : Nat) : Int) - 1) = (f2 : Int) := by rw [IntWalk.i64_in _ (by omega)]; omega
            have Sf := Sr.setAt 0 rfl 4 (.int .i64 (f2 : Nat)) H0.out ⟨HPB.out, HBG.out, HOB.out⟩
            have Sf : St w0 (wr.setCell ⟨bs, 4, none⟩ (.int .i64 (f2 : Nat))) (.box bs #[av, .slice co cs.length cc, .int .i64 s, .slice (some ⟨bt, offt, none⟩) ar.length (ar.length + ct), .int .i64 (f2 : Nat)] 129 :: .rowE hdrE pt (some ⟨bt, offt, none⟩) (headsT s gs ar) :: .cellsOf gs T1 :: .box bx #[.pointer (some ⟨bs, 0, none⟩)] 127 :: r) := Sf
            have zf : bx + 1 ≤ (wr.setCell ⟨bs, 4, none⟩ (.int .i64 (f2 : Nat))).heap.size := by simp; exact zr
            clear Sr
            go_upto_region 13 with (fail)
            refine Sf.genC (z := bx + 1) zf ?_
            intro w3 z3 S3
            clear Sf zf x0 c4 c4f zr
            obtain ⟨x0, _⟩ := S3.one 3
            obtain ⟨c3, _⟩ := S3.cell 0 3 rfl
            obtain ⟨bt', offt', e', _, d0⟩ := (S3.rowE hdrE 1).hdr HHD.out
            obtain ⟨rfl, rfl⟩ : bt = bt' ∧ offt = offt' := by simpa using e'
            clear e'
            have hgm : g ∈ gs := List.mem_of_getElem? HG.out
            obtain ⟨row, hrow, hrl⟩ := HRL.out T1 HT1.out
            have hel : entry < row.length := by omega
            have hgc := S3.cellsOf 2 rfl sign g row HG.out hrow
            obtain ⟨g0, g0f⟩ := ((St.start w3).add (.box g (tc row) 3) hgc).cell 0 entry (v := .int .i64 row[entry]) (by simp [tc, hel]) rfl
            have hgl := heap_lt hgc
            have S4 := S3.setRow 2 rfl HG.out hrow HND.out (x : Int) (j := entry) (HG0.out g hgm) ⟨fun e => HBG.out (by have e' : g = bs := e; rw [← e']; exact hgm), HPG.out g hgm, HOG.out g hgm⟩
            obtain ⟨T2, hT2⟩ : ∃ T2, T2 = T1.set sign (row.set entry (x : Int)) := ⟨_, rfl⟩
            have S4 : St w0 (w3.setCell ⟨g, entry, none⟩ (.int .i64 (x : Int))) (.box bs #[av, .slice co cs.length cc, .int .i64 s, .slice (some ⟨bt, offt, none⟩) ar.length (ar.length + ct), .int .i64 (f2 : Nat)] 129 :: .rowE hdrE pt (some ⟨bt, offt, none⟩) (headsT s gs ar) :: .cellsOf gs T2 :: .box bx #[.pointer (some ⟨bs, 0, none⟩)] 127 :: r) := by rw [hT2]; exact S4
            have HT2 := Lib.hid (show TabOK ar s T2 by rw [hT2]; exact TabOK.set HT1.out hrow hxs)
            have HP2 := Lib.hid (show T2.flatten.take (cellTot s (ar.take sign) + (entry + 1)) = pr ++ [(x : Int)] by
              have h1 := HP1.out
              rw [HPL.out] at h1
              rw [hT2, flatten_set hrow hel, flat_take sign HT1.out.shaped, show cellTot s (ar.take sign) + (entry + 1) = (cellTot s (ar.take sign) + entry) + 1 by omega, take_set (by rw [flat_len HT1.out.shaped]; have := HM.out; omega), h1])
            have zf : bx + 1 ≤ (w3.setCell ⟨g, entry, none⟩ (.int .i64 (x : Int))).heap.size := by simp; exact z3
            clear hgc hrow hrl hT2 S3 z3
            go_upto_region 14 with (fail)
            refine S4.genC (z := bx + 1) zf ?_
            intro w4 z4 S4'
            clear S4 zf x0 c3 d0 g0 g0f hgl
            obtain ⟨x0, _⟩ := S4'.one 3
            have hw2 : IntKind.i64.wrap ((entry : Int) + 1) = ((entry + 1 : Nat) : Int) := by rw [IntWalk.i64_in _ (by omega)]; omega
            have HI := IH.out sign (entry + 1) M1 (by omega) hsl HM.out (fun b hb => by
              have e : a = b := Option.some.inj (HA.out.symm.trans hb)
              rw [← e, ← HN.out]; omega) T2 f2 w4 (.box bx #[.pointer (some ⟨bs, 0, none⟩)] 127 :: r) HT2.out (by omega) HOB.out HOG.out S4'
            go_wp2_with fail
            refine HI.mono ?_
            rintro e w5 ⟨st, f3, T3, rfl, z5, hpost, S5⟩
            rw [HP2.out] at hpost
            have HPO := Lib.hid hpost
            have HP3 := Lib.hid (show T3.flatten.take pr.length = pr by
              have h1 := congrArg (List.take pr.length) hpost.pr
              rw [List.take_take, List.take_left] at h1
              rwa [Nat.min_eq_left (by simp)] at h1)
            have HR1 := Lib.hid (show (rec x f2).1 = st ∧ (rec x f2).2.1 = f3 from ⟨by rw [HREC.out]; exact hpost.hst, by rw [HREC.out]; exact hpost.hfu⟩)
            have hf3 : f3 ≤ 2000 := by
              have h1 := atG_le (s := s) (Q := holdsC s ar cs) M1 (pr ++ [(x : Int)]) f2
              rw [hpost.hfu] at h1; omega
            have HTS := Lib.hid (show tryG rec (s - x) x (f2 + 1) = if (rec x f2).1 = 2 then tryG rec (s - (x + 1)) (x + 1) (rec x f2).2.1 else rec x f2 by
              obtain ⟨r1, hr1⟩ : ∃ r1, s - x = r1 + 1 := ⟨s - x - 1, by omega⟩
              rw [hr1, show s - (x + 1) = r1 by omega, tryG])
            have z5' : bx + 1 ≤ w5.heap.size := by omega
            clear HI hpost S4' x0
            by_cases hst : st = 2
            · subst hst
              have HTR2 := Lib.hid (show tryG rec s 0 f = tryG rec (s - (x + 1)) (x + 1) f3 by rw [HTR.out, HTS.out, if_pos HR1.out.1, HR1.out.2])
              have HT3 := Lib.hid HPO.out.ok
              go_wp2_with fail
              go_roundw
              case rel => exact ⟨x + 1, f3, T3, by omega, by go_num, hf3, HTR2.out, HT3.out, HP3.out, z5', S5⟩
              case measure => simp [intOf] <;> omega
            · have hsb : (st != 2) = true := by simpa using hst
              have HPF := Lib.hid (show AtPost s ar cs (M1 + 1) pr f st f3 T3 from by
                have e : atG s (holdsC s ar cs) (M1 + 1) pr f = rec x f2 := by rw [HATG.out, HTR.out, HTS.out, if_neg (by rw [HR1.out.1]; exact hst)]
                exact ⟨by rw [e]; exact HR1.out.1, by rw [e]; exact HR1.out.2, HPO.out.ok, HP3.out, fun h => by rw [e, HREC.out]; exact HPO.out.hfd h⟩)
              have S6 := Lib.hid S5.drop3
              have z6 : w.heap.size ≤ w5.heap.size := by have := HBX.out; omega
              clear S5
              go_wp2_with fail
              go_ret
              exact ⟨st, f3, T3, rfl, z6, by rw [← HPR.out]; exact HPF.out, S6.out⟩
        · obtain rfl : x = s := by omega
          have HPF := Lib.hid (show AtPost x ar cs (M1 + 1) pr f 2 f1 T1 from by
            have e : atG x (holdsC x ar cs) (M1 + 1) pr f = (2, f1, []) := by rw [HATG.out, HTR.out, Nat.sub_self, tryG]
            exact ⟨by rw [e], by rw [e], HT1.out, HP1.out, fun h => absurd h (by decide)⟩)
          have S6 := Lib.hid Sr.drop3
          have z6 : w.heap.size ≤ wr.heap.size := by have := HBX.out; omega
          clear Sr
          go_wp2_with fail
          go_ret
          exact ⟨2, f1, T1, rfl, z6, by rw [← HPR.out]; exact HPF.out, S6.out⟩
end Go.Proofs.Yteekoclfpehnpaa
namespace Go.Proofs.Yteekoclfpehnpaa
open Go.RowKit Go.Shelf
set_option linter.unusedVariables false
set_option maxHeartbeats 400000

/-- how many values the search over M cells tries, all told -/
def nodesN (s : Nat) : Nat → Nat
  | 0 => 0
  | M + 1 => s * (1 + nodesN s M)
theorem numD_far {s : Nat} (hs : 1 ≤ s) : ∀ (M n c : Nat), numD s M (n + s ^ M * c) = numD s M n
  | 0, n, c => rfl
  | M + 1, n, c => by
    have h1 : n + s ^ (M + 1) * c = n + s ^ M * (s * c) := by rw [Nat.pow_succ, Nat.mul_assoc]
    have hp : 0 < s ^ M := Nat.pow_pos hs
    rw [numD, numD, h1, numD_far hs M n (s * c), Nat.add_mul_div_left _ _ hp, Nat.add_mul_mod_self_left]
theorem numD_cons {s : Nat} (hs : 1 ≤ s) {M y k : Nat} (hy : y < s) (hk : k < s ^ M) : numD s (M + 1) (k + s ^ M * y) = (y : Int) :: numD s M k := by
  have hp : 0 < s ^ M := Nat.pow_pos hs
  rw [numD, numD_far hs, Nat.add_mul_div_left _ _ hp, Nat.div_eq_of_lt hk, Nat.zero_add, Nat.mod_eq_of_lt hy]
theorem split_lt {s : Nat} (hs : 1 ≤ s) {M n : Nat} (h : n < s ^ (M + 1)) : n / s ^ M < s ∧ n % s ^ M < s ^ M ∧ n % s ^ M + s ^ M * (n / s ^ M) = n := by
  have hp : 0 < s ^ M := Nat.pow_pos hs
  refine ⟨?_, Nat.mod_lt _ hp, Nat.mod_add_div _ _⟩
  rw [Nat.div_lt_iff_lt_mul hp, ← Nat.pow_succ']
  exact h
/-- what the search over M cells answers -/
def AtSpec (s : Nat) (Q : List Int → Bool) (M : Nat) (pre : List Int) (f : Nat) (t : Int × Nat × List Int) : Prop :=
  (t.1 = 1 ∧ ∃ k, k < s ^ M ∧ t.2.2 = pre ++ numD s M k ∧ Q (pre ++ numD s M k) = true ∧ ∀ j, j < k → Q (pre ++ numD s M j) = false) ∨
  (t.1 = 2 ∧ (∀ j, j < s ^ M → Q (pre ++ numD s M j) = false) ∧ f ≤ t.2.1 + nodesN s M) ∨
  (t.1 = 3 ∧ f < nodesN s M)
theorem tryG_spec {s : Nat} {Q : List Int → Bool} {M : Nat} {pre : List Int} {rec : Nat → Nat → Int × Nat × List Int} (h : ∀ (x f : Nat), AtSpec s Q M (pre ++ [((x : Nat) : Int)]) f (rec x f)) : ∀ r x f,
    ((tryG rec r x f).1 = 1 ∧ ∃ y k, x ≤ y ∧ y < x + r ∧ k < s ^ M ∧ (tryG rec r x f).2.2 = pre ++ [(y : Int)] ++ numD s M k ∧ Q (pre ++ [(y : Int)] ++ numD s M k) = true ∧ (∀ j, j < k → Q (pre ++ [(y : Int)] ++ numD s M j) = false) ∧ ∀ z, x ≤ z → z < y → ∀ j, j < s ^ M → Q (pre ++ [(z : Int)] ++ numD s M j) = false) ∨
    ((tryG rec r x f).1 = 2 ∧ (∀ z, x ≤ z → z < x + r → ∀ j, j < s ^ M → Q (pre ++ [(z : Int)] ++ numD s M j) = false) ∧ f ≤ (tryG rec r x f).2.1 + r * (1 + nodesN s M)) ∨
    ((tryG rec r x f).1 = 3 ∧ f < r * (1 + nodesN s M))
  | 0, x, f => .inr (.inl ⟨rfl, fun z h1 h2 => by omega, Nat.le_add_right _ _⟩)
  | r + 1, x, 0 => .inr (.inr ⟨rfl, by rw [Nat.succ_mul]; omega⟩)
  | r + 1, x, f + 1 => by
    rw [tryG]
    rcases h x f with ⟨h1, k, hk, h2, h3, h4⟩ | ⟨h1, h2, h3⟩ | ⟨h1, h2⟩
    · rw [if_neg (by rw [h1]; decide)]
      exact .inl ⟨h1, x, k, Nat.le_refl _, by omega, hk, h2, h3, h4, fun z a b => by omega⟩
    · rw [if_pos h1]
      rcases tryG_spec h r (x + 1) (rec x f).2.1 with ⟨g1, y, k, a1, a2, a3, a4, a5, a6, a7⟩ | ⟨g1, g2, g3⟩ | ⟨g1, g2⟩
      · refine .inl ⟨g1, y, k, by omega, by omega, a3, a4, a5, a6, fun z b1 b2 j hj => ?_⟩
        rcases Nat.lt_or_ge x z with hz | hz
        · exact a7 z hz b2 j hj
        · obtain rfl : z = x := by omega
          exact h2 j hj
      · refine .inr (.inl ⟨g1, fun z b1 b2 j hj => ?_, ?_⟩)
        · rcases Nat.lt_or_ge x z with hz | hz
          · exact g2 z hz (by omega) j hj
          · obtain rfl : z = x := by omega
            exact h2 j hj
        · rw [Nat.succ_mul]; omega
      · refine .inr (.inr ⟨g1, ?_⟩)
        rw [Nat.succ_mul]; omega
    · rw [if_neg (by rw [h1]; decide)]
      refine .inr (.inr ⟨h1, ?_⟩)
      rw [Nat.succ_mul]; omega
theorem atG_spec {s : Nat} (hs : 1 ≤ s) {Q : List Int → Bool} : ∀ M pre f, AtSpec s Q M pre f (atG s Q M pre f)
  | 0, pre, f => by
    unfold AtSpec
    rw [atG]
    cases hq : Q pre with
    | true => exact .inl ⟨by simp, 0, by simp, by simp [numD], by simp [numD, hq], fun j hj => by omega⟩
    | false =>
      refine .inr (.inl ⟨by simp, fun j hj => ?_, by simp⟩)
      simp [numD, hq]
  | M + 1, pre, f => by
    have h := tryG_spec (s := s) (Q := Q) (M := M) (pre := pre) (rec := fun (x f : Nat) => atG s Q M (pre ++ [((x : Nat) : Int)]) f) (fun x f => atG_spec hs M _ f) s 0 f
    unfold AtSpec
    rw [atG]
    have hc : ∀ y k, y < s → k < s ^ M → pre ++ numD s (M + 1) (k + s ^ M * y) = pre ++ [(y : Int)] ++ numD s M k := fun y k hy hk => by
      rw [numD_cons hs hy hk, List.append_assoc, List.singleton_append]
    have hlt : ∀ y k, y < s → k < s ^ M → k + s ^ M * y < s ^ (M + 1) := fun y k hy hk => by
      have h1 : s ^ M * (y + 1) ≤ s ^ (M + 1) := by rw [Nat.pow_succ]; exact Nat.mul_le_mul_left _ hy
      rw [Nat.mul_add, Nat.mul_one] at h1
      omega
    rcases h with ⟨h1, y, k, a1, a2, a3, a4, a5, a6, a7⟩ | ⟨h1, h2, h3⟩ | ⟨h1, h2⟩
    · have hy : y < s := by omega
      refine .inl ⟨h1, k + s ^ M * y, hlt y k hy a3, by rw [hc y k hy a3]; exact a4, by rw [hc y k hy a3]; exact a5, fun j hj => ?_⟩
      have hj2 : j < s ^ (M + 1) := Nat.lt_trans hj (hlt y k hy a3)
      obtain ⟨y2, k2, b1, b2, b3⟩ : ∃ y2 k2, y2 < s ∧ k2 < s ^ M ∧ k2 + s ^ M * y2 = j := ⟨_, _, split_lt hs hj2⟩
      rw [← b3, hc _ _ b1 b2]
      rcases Nat.lt_trichotomy y2 y with hz | hz | hz
      · exact a7 _ (Nat.zero_le _) hz _ b2
      · rw [hz]
        refine a6 _ ?_
        rw [hz] at b3; omega
      · exfalso
        have h4 : s ^ M * (y + 1) ≤ s ^ M * y2 := Nat.mul_le_mul_left _ hz
        rw [Nat.mul_add, Nat.mul_one] at h4
        omega
    · refine .inr (.inl ⟨h1, fun j hj => ?_, h3⟩)
      obtain ⟨b1, b2, b3⟩ := split_lt hs hj
      rw [← b3, hc _ _ b1 b2]
      exact h2 _ (Nat.zero_le _) (by omega) _ b2
    · exact .inr (.inr ⟨h1, h2⟩)
theorem nodesN_le {s : Nat} (hs : 2 ≤ s) : ∀ M, nodesN s M + 2 ≤ 2 * s ^ M
  | 0 => by simp [nodesN]
  | M + 1 => by
    have h1 := nodesN_le hs M
    rw [nodesN, Nat.pow_succ]
    have h2 : s * (nodesN s M + 2) ≤ s * (2 * s ^ M) := Nat.mul_le_mul_left _ h1
    have h3 : s * (2 * s ^ M) = 2 * (s ^ M * s) := by rw [Nat.mul_left_comm, Nat.mul_comm s]
    rw [Nat.mul_add] at h2 ⊢
    omega
theorem nodesN_one : ∀ M, nodesN 1 M = M
  | 0 => rfl
  | M + 1 => by rw [nodesN, nodesN_one M]; omega
theorem cellTot_one : ∀ ar : List Int, cellTot 1 ar = ar.length
  | [] => rfl
  | a :: r => by rw [cellTot, cellTot_one r, Nat.one_pow, List.length_cons]; omega
/-- a fuel of 2000 that does not do: there are many tables -/
theorem hungry_many {s : Nat} {ar : List Int} (hs : 1 ≤ s) (hna : ar.length ≤ 12) (h : 2000 < nodesN s (cellTot s ar)) : 1000 < tabsN s ar := by
  rcases Nat.lt_or_ge 1 s with h2 | h2
  · have h1 := nodesN_le h2 (cellTot s ar)
    unfold tabsN
    split <;> omega
  · obtain rfl : s = 1 := by omega
    rw [nodesN_one, cellTot_one] at h
    omega
theorem unfl_numD {s : Nat} {ar : List Int} (hs : 1 ≤ s) (hs4 : s ≤ 4) (har : ∀ x ∈ ar, 0 ≤ x ∧ x ≤ 3) (k : Nat) : unfl s ar (numD s (cellTot s ar) k) = (numTb s ar k).1 := by
  rw [← (numTb_flat ar k).1, unfl_flat (numTb_tabOK hs hs4 har k).shaped]
theorem holds_model {s : Nat} {ar : List Int} {cs : List (List Fc)} (hs : 1 ≤ s) (hs4 : s ≤ 4) (har : ∀ x ∈ ar, 0 ≤ x ∧ x ≤ 3) (hw : ∀ c ∈ cs, wideB s c = false) (k : Nat) : holdsC s ar cs (numD s (cellTot s ar) k) = modelB s (numTb s ar k).1 cs := by
  unfold holdsC modelB
  rw [unfl_numD hs hs4 har, Bool.eq_iff_iff, List.all_eq_true, List.all_eq_true]
  exact ⟨fun h c hc => by rw [allF_true hs (hw c hc)]; exact h c hc, fun h c hc => by rw [← allF_true hs (hw c hc)]; exact h c hc⟩
/-- what the whole search answers -/
theorem find_spec {s : Nat} {ar : List Int} {cs : List (List Fc)} (hs : 1 ≤ s) (hs4 : s ≤ 4) (har : ∀ x ∈ ar, 0 ≤ x ∧ x ≤ 3) (hna : ar.length ≤ 12) (hw : ∀ c ∈ cs, wideB s c = false) {f f' : Nat} {st : Int} {T : List (List Int)} (h : AtPost s ar cs (cellTot s ar) [] f st f' T) :
    (st = 1 ∧ ∃ k, k < s ^ cellTot s ar ∧ T = (numTb s ar k).1 ∧ modelB s T cs = true ∧ ∀ j, j < k → modelB s (numTb s ar j).1 cs = false) ∨
    (st = 2 ∧ ∀ j, j < s ^ cellTot s ar → modelB s (numTb s ar j).1 cs = false) ∨
    (st = 3 ∧ (f < 2000 ∨ 2000 < f ∨ 1000 < tabsN s ar)) := by
  rcases atG_spec (Q := holdsC s ar cs) hs (cellTot s ar) [] f with ⟨h1, k, h2, h3, h4, h5⟩ | ⟨h1, h2, h3⟩ | ⟨h1, h2⟩
  · rw [h.hst] at h1
    have h6 := h.hfd h1
    rw [h3, List.nil_append] at h6
    have hT : T = (numTb s ar k).1 := by rw [← unfl_numD hs hs4 har, ← h6, unfl_flat h.ok.shaped]
    refine .inl ⟨h1, k, h2, hT, ?_, fun j hj => ?_⟩
    · rw [hT, ← holds_model hs hs4 har hw]; exact h4
    · rw [← holds_model hs hs4 har hw]; exact h5 j hj
  · rw [h.hst] at h1
    exact .inr (.inl ⟨h1, fun j hj => by rw [← holds_model hs hs4 har hw]; exact h2 j hj⟩)
  · rw [h.hst] at h1
    refine .inr (.inr ⟨h1, ?_⟩)
    rcases Nat.lt_trichotomy f 2000 with hf | hf | hf
    · exact .inl hf
    · exact .inr (.inr (hungry_many hs hna (by omega)))
    · exact .inr (.inl hf)
theorem found_hit {s : Nat} {ar : List Int} {cs : List (List Fc)} {k : Nat} (hk : k < s ^ cellTot s ar) (ht : s ^ cellTot s ar ≤ 100000) (h1 : modelB s (numTb s ar k).1 cs = true) (h2 : ∀ j, j < k → modelB s (numTb s ar j).1 cs = false) : foundF s ar cs = k := by
  unfold foundF
  have e : tabsN s ar = s ^ cellTot s ar := by unfold tabsN; rw [if_pos ht]
  refine idxP_hit (by rw [List.length_range, e]; exact hk) (fun j x hj hx => ?_) (by rw [List.getElem_range]; exact h1)
  rw [List.getElem?_range (by rw [e]; omega)] at hx
  obtain rfl := Option.some.inj hx
  exact h2 j hj
theorem found_none {s : Nat} {ar : List Int} {cs : List (List Fc)} (ht : s ^ cellTot s ar ≤ 100000) (h2 : ∀ j, j < s ^ cellTot s ar → modelB s (numTb s ar j).1 cs = false) : foundF s ar cs = -1 := by
  unfold foundF
  have e : tabsN s ar = s ^ cellTot s ar := by unfold tabsN; rw [if_pos ht]
  refine idxP_none (fun j x hj hx => ?_)
  rw [List.length_range] at hj
  rw [List.getElem?_range hj] at hx
  obtain rfl := Option.some.inj hx
  exact h2 j (by rw [← e]; exact hj)
end Go.Proofs.Yteekoclfpehnpaa
