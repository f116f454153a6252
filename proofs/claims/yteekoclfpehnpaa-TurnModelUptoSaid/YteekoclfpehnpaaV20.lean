/-
  The law TurnModel: for any rules, tree, lore, table and things it answers true.
-/
import Derived.Test.YteekoclfpehnpaaProg
import Derived.Test.YteekoclfpehnpaaV18
import Derived.Test.YteekoclfpehnpaaV19
import Derived.Test.YteekoclfpehnpaaS4
import Derived.Test.YteekoclfpehnpaaG2
import Derived.Test.YteekoclfpehnpaaR5
import Derived.Test.YteekoclfpehnpaaR6
import Derived.RegionTactic
import Derived.Lib.QuietBelow
import Derived.BigQuiet
import Derived.Deep.Cut
namespace Go.Proofs.Yteekoclfpehnpaa
open Go.RowKit Go.Shelf
set_option linter.unusedVariables false
set_option maxHeartbeats 400000

theorem St.ruledM {P : Program} {n : Nat} {a : Array Value} {w0 w : World} {l : List Fct} (S : St w0 w l) {B : Nat} (hB : B ≤ w.heap.size) {rs : List Ru} (h : Calls P n a w fun e w' => ∃ ro, e = .returned (.slice ro rs.length rs.length) ∧ ruleE.Row (fun b => w.heap.size ≤ b) w' ro rs ∧ Below w.heap.size w w') :
    Calls P n a w fun e w' => ∃ ro, e = .returned (.slice ro rs.length rs.length) ∧ w.heap.size ≤ w'.heap.size ∧ St w0 w' (fsnoc l (.rowE ruleE (fun b => B ≤ b) ro rs)) :=
  h.mono fun e w' ⟨ro, h1, h2, h3⟩ => ⟨ro, h1, h3.size, (S.step h3).add (.rowE ruleE _ ro rs) (h2.mono (fun b h _ => Nat.le_trans hB h))⟩

theorem St.donedM {P : Program} {n : Nat} {a : Array Value} {w0 w : World} {l : List Fct} (S : St w0 w l) {r : Int × T × (Int × Int)} (h : Calls P n a w (DoRP r w)) :
    Calls P n a w fun e w' => ∃ s x k sp c d, e = .returned (.tuple #[.int .i64 s, .agg #[.int .i64 x.head, .slice k x.kids.length (x.kids.length + sp)], .agg #[.int .i64 c, .int .i64 d]]) ∧ Hid (r = (s, x, (c, d))) ∧ w.heap.size ≤ w'.heap.size ∧
      St w0 w' (fsnoc l (.treeP (fun b => w.heap.size ≤ b ∧ b < w'.heap.size) (.agg #[.int .i64 x.head, .slice k x.kids.length (x.kids.length + sp)]) x)) :=
  h.mono fun e w' ⟨u, h1, h2, h3⟩ => by
    obtain ⟨k, sp, rfl⟩ := h2.at.form
    exact ⟨r.1, r.2.1, k, sp, r.2.2.1, r.2.2.2, h1, rfl, h3.size, (S.step h3).add (.treeP _ _ _) (h2.mono fun b hb hl => ⟨hb, hl⟩)⟩
theorem vastR_smallM {rs : List Ru} (h : vastR rs = false) : rs.length ≤ 40 ∧ ∀ (i : Nat) f, rs[i]? = some f → f.1.size ≤ 200 ∧ f.2.size ≤ 200 := by
  unfold vastR at h
  rw [Bool.or_eq_false_iff] at h
  refine ⟨by have := of_decide_eq_false h.2; omega, fun i f hf => ?_⟩
  have h1 := List.any_eq_false.1 h.1 f (List.mem_of_getElem? hf)
  unfold bigR at h1
  simp only [Bool.or_eq_true, decide_eq_true_eq, not_or] at h1
  omega
/-- a rule as a claim -/
def claimR (f : Ru) : List Fc := [⟨false, f.1, f.2⟩]
theorem rule_ok {ar : List Int} {s : Nat} {tb : List (List Int)} {f : Ru} (hs : 1 ≤ s) (hc : codeF ar (claimR f) = 0) (hw : wideB s (claimR f) = false) (ht : trueF s tb (claimR f) = true) : RuleOK ar s tb f := by
  have h0 := (codeF_zero.1 hc).2
  have h1 := h0 f.1 (by simp [claimR, treesF])
  have h2 := h0 f.2 (by simp [claimR, treesF])
  refine ⟨h1.2, h2.2, fun th hth hl => ?_⟩
  have hv : varsC (claimR f) ≤ 8 := by
    have := mostL_bound (l := treesF (claimR f)) (fun t ht => (h0 t ht).1)
    rw [← varsC_cast] at this; omega
  have hlt : (th.take (varsC (claimR f))).length = varsC (claimR f) := by simp; omega
  have h3 := (trueF_iff hs hw).1 ht (th.take (varsC (claimR f))) (fun x hx => hth x (List.mem_of_mem_take hx)) hlt
  obtain ⟨g, hg, hb⟩ := List.any_eq_true.1 h3
  have hm := fact_most hg
  obtain rfl : g = ⟨false, f.1, f.2⟩ := by simpa [claimR] using hg
  unfold factB at hb
  simp only [Bool.bne_false, decide_eq_true_eq] at hb
  rw [ev_agree (th := th) (by omega) (fun i hi => gI_take (by omega)) f.1 (by rw [hlt]; exact hm.1), ev_agree (th := th) (by omega) (fun i hi => gI_take (by omega)) f.2 (by rw [hlt]; exact hm.2)] at hb
  exact hb
theorem doR_bad {rs : List Ru} {t : T} {f : Int} (h : (doR rs t f).2.2.1 ≠ 0) : (doR rs t f).2.1 = zeroT := by
  unfold doR at h ⊢
  by_cases h1 : (checkF rs t).1 ≠ 0
  · rw [if_pos h1]
  · rw [if_neg h1] at h ⊢
    by_cases h2 : f < 0 ∨ 2000 < f
    · rw [if_pos h2]
    · rw [if_neg h2] at h ⊢
      by_cases h3 : (normN rs f.toNat t).1 = 0
      · rw [if_pos h3]
      · rw [if_neg h3] at h; exact absurd rfl h
theorem doR_good {rs : List Ru} {t : T} {f : Int} (h : (doR rs t f).2.2.1 = 0) : (checkF rs t).1 = 0 ∧ (normN rs f.toNat t).1 ≠ 0 ∧ doR rs t f = ((normN rs f.toNat t).1, (normN rs f.toNat t).2, (0, 0)) := by
  unfold doR at h ⊢
  by_cases h1 : (checkF rs t).1 ≠ 0
  · rw [if_pos h1] at h; exact absurd h h1
  · rw [if_neg h1] at h ⊢
    by_cases h2 : f < 0 ∨ 2000 < f
    · rw [if_pos h2] at h; cases h
    · rw [if_neg h2] at h ⊢
      by_cases h3 : (normN rs f.toNat t).1 = 0
      · rw [if_pos h3] at h; cases h
      · rw [if_neg h3]; exact ⟨by simpa using h1, h3, rfl⟩
theorem infoC : (Try.prog.info? 24).map (fun i => (i.zero, i.size, i.bytes)) = some (some (.agg #[.slice none 0 0]), 1, 24) := by kernel_rfl
set_option maxRecDepth 100000 in
theorem ev00 : doR addRs (.node 3 [.node 1 [], .node 1 []]) 50 = (1, .node 1 [], (0, 0)) := by kernel_rfl

set_option maxRecDepth 100000 in
set_option maxHeartbeats 8000000 in
theorem turnModel9 (rs : List Ru) (t : T) (ar : List Int) (sz : Int) (tb : List (List Int)) (th : List Int) (p0 q r : Nat → Prop) (ao aa co to_ tho : Option Addr) (c ca ncl cc ct cth : Nat) (v : Value) (w : World) (hrow : ruleE.Row p0 w ao rs) (ht : TreeP p0 w v t) (hp : ∀ b, p0 b → b < w.heap.size)
    (ha : intE.Row q w aa ar) (htb : intsE.Row r w to_ tb) (hth : intE.Row (fun _ => True) w tho th) (hn : rs.length ≤ 1000000) (hs : ∀ (i : Nat) f, rs[i]? = some f → f.1.size ≤ 1048576 ∧ f.2.size ≤ 1048576) (hts : t.size ≤ 1048576)
    (hna : ar.length ≤ maxLen) (hnt : tb.length ≤ maxLen) (hnh : th.length ≤ 1048576) :
    Calls Try.prog 9 #[.slice ao rs.length c, v, .agg #[.slice aa ar.length ca, .slice co ncl cc], .agg #[.int .i64 sz, .slice to_ tb.length (tb.length + ct)], .slice tho th.length cth] w fun e w' => e = .returned (.bool true) ∧ Below w.heap.size w w' := by
  obtain ⟨tk, ts, rfl⟩ := ht.at.form
  have HT := Lib.hid ht
  have HP := Lib.hid hp; have HW := Lib.hid hrow; have HS := Lib.hid hs; have HA := Lib.hid ha; have HTB := Lib.hid htb; have HTH := Lib.hid hth; have HNA := Lib.hid hna; have HNT := Lib.hid hnt
  have hfld := field28_0
  obtain ⟨iC, gi, gz0, gz1, gz2⟩ := info_parts infoC
  obtain ⟨ra, hra⟩ : ∃ x, x = addRs := ⟨_, rfl⟩
  have HAD : ∀ W, Calls Try.prog 38 #[] W fun e w' => ∃ ro, e = .returned (.slice ro ra.length ra.length) ∧ ruleE.Row (fun b => W.heap.size ≤ b) w' ro ra ∧ Below W.heap.size W w' := fun W => by rw [hra]; exact adding38 W
  have hral : ra.length ≤ 1000000 := by rw [hra]; decide
  obtain ⟨P1, hP1⟩ : ∃ x, x = T.node 3 [.node 1 [], .node 1 []] := ⟨_, rfl⟩
  have HT1 : ∀ W, Calls Try.prog 39 #[.int .i64 3, .agg #[.int .i64 1, .slice none 0 0], .agg #[.int .i64 1, .slice none 0 0]] W (OneP (fun _ => False) P1 W) := fun W => by rw [hP1]; exact two39 _ 3 (.node 1 []) (.node 1 []) _ _ W (fun b h => h.elim) (TreeP.leaf _ _ _) (TreeP.leaf _ _ _)
  obtain ⟨N, hN⟩ : ∃ x, x = T.node 1 [] := ⟨_, rfl⟩
  have HD1 : ∀ W p0 v ao, (∀ b, p0 b → b < W.heap.size) → ruleE.Row p0 W ao ra → TreeP p0 W v P1 → Calls Try.prog 37 #[.slice ao ra.length ra.length, v, .int .i64 50] W (DoRP (1, N, (0, 0)) W) := fun W p0 v ao hp hr ht => by
    have h := do37 ra P1 50 p0 v ao ra.length W hp hr ht hral
    rw [show doR ra P1 50 = (1, N, (0, 0)) by rw [hra, hP1, hN]; exact ev00] at h
    exact h
  have HN1 := Lib.hid (show decide (N = T.node 1 []) = true by rw [hN]; simp)
  clear hra hP1 hN
  obtain ⟨bx, hbx⟩ : ∃ b, b = w.heap.size := ⟨_, rfl⟩
  have S1 := (((St.start w).box hbx.symm #[.int .i64 t.head, .slice tk t.kids.length (t.kids.length + ts)] 44).box (b := bx + 1) (by simp [hbx]) #[.slice aa ar.length ca, .slice co ncl cc] 29).box (b := bx + 2) (by simp [hbx]) #[.int .i64 sz, .slice to_ tb.length (tb.length + ct)] 41
  have hsz1 : (((w.alloc (.cells #[.int .i64 t.head, .slice tk t.kids.length (t.kids.length + ts)] 44)).alloc (.cells #[.slice aa ar.length ca, .slice co ncl cc] 29)).alloc (.cells #[.int .i64 sz, .slice to_ tb.length (tb.length + ct)] 41)).heap.size = bx + 3 := by simp [hbx]
  clear ht hp hrow hs ha htb hth hna hnt
  go_enter Try.func9, Try.ntmps9
  go_wp2_with fail
  rw [← hbx]
  refine S1.gen (z := bx + 3) (by omega) ?_
  intro w1 z1 S
  have HBX := Lib.hid hbx
  clear S1 hbx hsz1
  refine (S.ruledM (B := bx + 3) z1 (HAD w1)).mono ?_
  rintro e wa ⟨ro, rfl, za, Sa⟩
  go_wp2_with fail
  refine (Sa.quiet (leaf25 1 wa)).mono ?_
  rintro e wb ⟨rfl, zb, Sb⟩
  go_wp2_with fail
  refine (Sb.quiet (leaf25 1 wb)).mono ?_
  rintro e wc ⟨rfl, zc, Sc⟩
  go_wp2_with fail
  refine (Sc.oned (B := bx + 3) (by omega) (fun b h => h.elim) (HT1 wc)).mono ?_
  rintro e wd ⟨pk, ps, rfl, zd, Sd⟩
  go_wp2_with fail
  refine (Sd.donedM (HD1 wd (fun b => bx + 3 ≤ b ∧ b < wd.heap.size) _ ro (fun b h => h.2) ((Sd.rowE ruleE 3 (p := fun b => bx + 3 ≤ b) rfl).mono (fun b h hl => ⟨h, hl⟩)) ((St.treeP Sd 4 (p := fun b => bx + 3 ≤ b) rfl).mono (fun b h hl => ⟨h, hl⟩)))).mono ?_
  rintro e we ⟨s1, M, mk, ms, c1, d1, rfl, HE, ze, Se⟩
  obtain ⟨rfl, rfl, rfl, rfl⟩ : s1 = 1 ∧ M = N ∧ c1 = 0 ∧ d1 = 0 := by
    have h := HE.out.symm
    simpa using h
  obtain ⟨b12, hb12⟩ : ∃ b, b = we.heap.size := ⟨_, rfl⟩
  have Sf := ((Se.box hb12.symm #[.int .i64 M.head, .slice mk M.kids.length (M.kids.length + ms)] 44).box (b := b12 + 1) (by simp [hb12]) #[.int .i64 0, .int .i64 0] 32).pick [0, 1, 2, 5, 6, 7]
  have zf : b12 + 2 ≤ ((we.alloc (.cells #[.int .i64 M.head, .slice mk M.kids.length (M.kids.length + ms)] 44)).alloc (.cells #[.int .i64 0, .int .i64 0] 32)).heap.size := by simp [hb12]
  have HB12 := Lib.hid (show bx + 3 ≤ b12 by omega)
  clear S Sa Sb Sc Sd Se HE
  go_wp2_with fail
  rw [← hb12]
  refine Sf.genC (z := b12 + 2) zf ?_
  intro w2 z2 S
  clear Sf zf hb12
  obtain ⟨⟨x0, _⟩, x1, _⟩ := S.two 5
  obtain ⟨⟨y0, _⟩, y1, _⟩ := S.two 4
  have CA := Lib.hid (fun d os => Calls.regrown_of (leaf25 1 (Go.Sort.grow (redrawn w2 d) os)))
  have CB := Lib.hid (fun d os => Calls.regrown_of (same22 M (.node 1 []) _ (.agg #[.int .i64 1, .slice none 0 0]) (Go.Sort.grow (redrawn w2 d) os) (St.treeP (S.regrown d os) 3 rfl).at (TreeP.leaf (fun _ => True) _ 1).at))
  rw [HN1.out] at CB
  have r0 := cell_regrown x0; have r1 := cell_regrown x1; have r2 := cell_regrown y0; have r3 := cell_regrown y1
  clear x0 x1 y0 y1
  refine wp_region_quiet_below (by kernel_rfl) (by kernel_rfl) ?_
  repeat (go_big_quiet_step (first | with_reducible exact CA.out _ _ | with_reducible exact CB.out _ _))
  refine wpQuiet_nil ?_
  intro _ hw'
  obtain ⟨⟨dq, osq⟩, hw''⟩ := hw'
  subst hw''
  refine (S.regrown dq osq).genX (z := b12 + 2) (Nat.le_trans z2 (below_regrown w2 dq osq).size) ?_
  intro w3 z3 S3
  have S3 := S3.pick [0, 1, 2, 4, 5]
  clear r0 r1 r2 r3 CA CB S
  go_wp2_with fail
  refine (S3.quiet (vastR42 rs p0 ao c w3 (HW.out.kept S3.bel) (by omega) (fun i f hf => by have := HS.out i f hf; omega))).mono ?_
  rintro e w4 ⟨rfl, z4, S4⟩
  cases hv : vastR rs with
  | true =>
    have SE := Lib.hid S4.bel
    clear S3 S4 hv
    go_wp2_with fail
    go_ret
    exact ⟨rfl, SE.out⟩
  | false =>
    have HVR := Lib.hid (vastR_smallM hv)
    clear hv
    obtain ⟨⟨x0, _⟩, x1, _⟩ := S4.two 0
    go_wp2_with fail
    refine (S4.quiet (vast15 t _ w4 (by omega) (HT.out.kept S4.bel).at)).mono ?_
    rintro e w5 ⟨rfl, z5, S5⟩
    cases hv : decide ((200 : Int) < t.size) with
    | true =>
      have SE := Lib.hid S5.bel
      clear S3 S4 S5 hv
      go_wp2_with fail
      go_ret
      exact ⟨rfl, SE.out⟩
    | false =>
      have HTS := Lib.hid (show t.size ≤ 200 by have := of_decide_eq_false hv; omega)
      clear hv hts S3 S4 x0 x1
      by_cases h20 : (20 : Int) < (rs.length : Int)
      · have SE := Lib.hid S5.bel
        clear S5
        go_wp2_with fail
        go_ret
        exact ⟨rfl, SE.out⟩
      · have hrl20 : rs.length ≤ 20 := by omega
        go_wp2_with fail
        refine S5.genC (z := b12 + 2) (by omega) ?_
        intro w6 z6 S
        have S : St w w6 [.box bx #[.int .i64 t.head, .slice tk t.kids.length (t.kids.length + ts)] 44, .box (bx + 1) #[.slice aa ar.length ca, .slice co ncl cc] 29, .box (bx + 2) #[.int .i64 sz, .slice to_ tb.length (tb.length + ct)] 41, .box b12 #[.int .i64 M.head, .slice mk M.kids.length (M.kids.length + ms)] 44, .box (b12 + 1) #[.int .i64 0, .int .i64 0] 32, .owns claimE (b12 + 2) (fun b' => p0 b' ∨ b12 + 2 ≤ b') (.slice none 0 0) ((rs.map claimR).take 0)] := S.add (.owns claimE (b12 + 2) (fun b' => p0 b' ∨ b12 + 2 ≤ b') (.slice none 0 0) []) (Elt.Own.nil _ _ _ _)
        clear S5
        go_loopw [14, 15] (fun o i wr => ∃ k : Nat, k ≤ rs.length ∧ i = .int .i64 k ∧ b12 + 2 ≤ wr.heap.size ∧ St w wr [.box bx #[.int .i64 t.head, .slice tk t.kids.length (t.kids.length + ts)] 44, .box (bx + 1) #[.slice aa ar.length ca, .slice co ncl cc] 29, .box (bx + 2) #[.int .i64 sz, .slice to_ tb.length (tb.length + ct)] 41, .box b12 #[.int .i64 M.head, .slice mk M.kids.length (M.kids.length + ms)] 44, .box (b12 + 1) #[.int .i64 0, .int .i64 0] 32, .owns claimE (b12 + 2) (fun b' => p0 b' ∨ b12 + 2 ≤ b') o ((rs.map claimR).take k)]) (fun _ i _ => rs.length - (intOf i).toNat)
        case atStart => exact ⟨0, by omega, rfl, z6, S⟩
        case round =>
          clear S
          obtain ⟨k, hk, rfl, z9, S⟩ := hrel
          by_cases hlt : k < rs.length
          · have hlti : (k : Int) < (rs.length : Int) := by omega
            obtain ⟨b, off, k1, s1, k2, s2, rfl, hpb, c0', c1', c2', c3', t1, t2⟩ := HW.out.rule hlt
            have HTK := Lib.hid (show (rs.map claimR).take (k + 1) = (rs.map claimR).take k ++ [claimR rs[k]] by rw [List.take_succ_eq_append_getElem (by simpa using hlt), List.getElem_map])
            obtain ⟨X, hX⟩ : ∃ X, X = rs[k].1 := ⟨_, rfl⟩
            obtain ⟨Y, hY⟩ : ∃ Y, Y = rs[k].2 := ⟨_, rfl⟩
            rw [show rs[k] = (X, Y) by rw [hX, hY]] at HTK
            rw [← hX] at c0' c1' t1
            rw [← hY] at c2' c3' t2
            have HX1 := Lib.hid t1; have HY1 := Lib.hid t2
            have HLK := Lib.hid (show ((rs.map claimR).take k).length = k by simp; omega)
            have HLK2 := Lib.hid (show min k rs.length = k by omega)
            have SD := ((((S.add (.cellAt b (off + k * 4) (.int .i64 X.head)) (Below.cellOf S.bel c0')).add (.cellAt b (off + k * 4 + 1) (.slice k1 X.kids.length (X.kids.length + s1))) (Below.cellOf S.bel c1')).add (.cellAt b (off + k * 4 + 2) (.int .i64 Y.head)) (Below.cellOf S.bel c2')).add (.cellAt b (off + k * 4 + 3) (.slice k2 Y.kids.length (Y.kids.length + s2))) (Below.cellOf S.bel c3')).drew
            clear hX hY t1 t2 c0' c1' c2' c3'
            go_wp2_with fail
            refine wpG_region 90 (fun W => (W.cell? ⟨b, off + k * 4, none⟩ = some (.int .i64 X.head) ∧ W.cell? ⟨b, off + k * 4 + 1, none⟩ = some (.slice k1 X.kids.length (X.kids.length + s1))) ∧ (W.cell? ⟨b, off + k * 4 + 2, none⟩ = some (.int .i64 Y.head) ∧ W.cell? ⟨b, off + k * 4 + 3, none⟩ = some (.slice k2 Y.kids.length (Y.kids.length + s2)))) (by kernel_rfl) ?_
            have HS := And.intro (And.intro (SD.cellAt 6) (SD.cellAt 7)) (And.intro (SD.cellAt 8) (SD.cellAt 9))
            refine wpG.take0 (i := 0) (by kernel_rfl) (by kernel_rfl) (by kernel_rfl) (by kernel_rfl) HS ?_
            intro oi ho
            simp only [List.getElem?_toArray, List.getElem?_cons_zero, Option.some.injEq] at ho
            subst ho
            refine ⟨?_, Or.inl ⟨by rfl, ?_⟩, fun _ _ _ h => h, ?_⟩
            rotate_left 1
            · intro W hW
              try dsimp only at hW
              go_simp
              try with_reducible rfl
            simp only [Act.put, List.setIfInBounds_toArray, List.set_cons_zero, List.set_cons_succ]
            refine wpG.take0 (i := 1) (by kernel_rfl) (by kernel_rfl) (by kernel_rfl) (by kernel_rfl) HS ?_
            intro oi ho
            simp only [List.getElem?_toArray, List.getElem?_cons_succ, List.getElem?_cons_zero, Option.some.injEq] at ho
            subst ho
            refine ⟨?_, Or.inl ⟨by rfl, ?_⟩, fun _ _ _ h => h, ?_⟩
            rotate_left 1
            · intro W hW
              try dsimp only at hW
              go_simp
              try with_reducible rfl
            simp only [Act.put, List.setIfInBounds_toArray, List.set_cons_zero, List.set_cons_succ]
            refine wpG.take0 (i := 2) (by kernel_rfl) (by kernel_rfl) (by kernel_rfl) (by kernel_rfl) HS ?_
            intro oi ho
            simp only [List.getElem?_toArray, List.getElem?_cons_succ, List.getElem?_cons_zero, Option.some.injEq] at ho
            subst ho
            refine ⟨?_, Or.inl ⟨by rfl, ?_⟩, fun _ _ _ h => h, ?_⟩
            rotate_left 1
            · intro W hW
              try dsimp only at hW
              go_simp
              try with_reducible rfl
            simp only [Act.put, List.setIfInBounds_toArray, List.set_cons_zero, List.set_cons_succ]
            refine wpG.take0 (i := 3) (by kernel_rfl) (by kernel_rfl) (by kernel_rfl) (by kernel_rfl) HS ?_
            intro oi ho
            simp only [List.getElem?_toArray, List.getElem?_cons_succ, List.getElem?_cons_zero, Option.some.injEq] at ho
            subst ho
            refine ⟨?_, Or.inl ⟨by rfl, ?_⟩, fun _ _ _ h => h, ?_⟩
            rotate_left 1
            · intro W hW
              try dsimp only at hW
              go_simp
              try with_reducible rfl
            simp only [Act.put, List.setIfInBounds_toArray, List.set_cons_zero, List.set_cons_succ]
            refine wpG.take0 (i := 4) (by kernel_rfl) (by kernel_rfl) (by kernel_rfl) (by kernel_rfl) HS ?_
            intro oi ho
            simp only [List.getElem?_toArray, List.getElem?_cons_succ, List.getElem?_cons_zero, Option.some.injEq] at ho
            subst ho
            refine ⟨?_, Or.inl ⟨by rfl, ?_⟩, fun _ _ _ h => h, ?_⟩
            rotate_left 1
            · intro W hW
              try dsimp only at hW
              go_simp
              try with_reducible rfl
            simp only [Act.put, List.setIfInBounds_toArray, List.set_cons_zero, List.set_cons_succ]
            refine wpG.take0 (i := 5) (by kernel_rfl) (by kernel_rfl) (by kernel_rfl) (by kernel_rfl) HS ?_
            intro oi ho
            simp only [List.getElem?_toArray, List.getElem?_cons_succ, List.getElem?_cons_zero, Option.some.injEq] at ho
            subst ho
            refine ⟨?_, Or.inl ⟨by rfl, ?_⟩, fun _ _ _ h => h, ?_⟩
            rotate_left 1
            · intro W hW
              try dsimp only at hW
              go_simp
              try with_reducible rfl
            simp only [Act.put, List.setIfInBounds_toArray, List.set_cons_zero, List.set_cons_succ]
            refine wpG.take0 (i := 6) (by kernel_rfl) (by kernel_rfl) (by kernel_rfl) (by kernel_rfl) HS ?_
            intro oi ho
            simp only [List.getElem?_toArray, List.getElem?_cons_succ, List.getElem?_cons_zero, Option.some.injEq] at ho
            subst ho
            refine ⟨?_, Or.inl ⟨by rfl, ?_⟩, fun _ _ _ h => h, ?_⟩
            rotate_left 1
            · intro W hW
              try dsimp only at hW
              go_simp
              try with_reducible rfl
            simp only [Act.put, List.setIfInBounds_toArray, List.set_cons_zero, List.set_cons_succ]
            refine wpG.take0 (i := 7) (by kernel_rfl) (by kernel_rfl) (by kernel_rfl) (by kernel_rfl) HS ?_
            intro oi ho
            simp only [List.getElem?_toArray, List.getElem?_cons_succ, List.getElem?_cons_zero, Option.some.injEq] at ho
            subst ho
            refine ⟨?_, Or.inl ⟨by rfl, ?_⟩, fun _ _ _ h => h, ?_⟩
            rotate_left 1
            · intro W hW
              try dsimp only at hW
              go_simp
              try with_reducible rfl
            simp only [Act.put, List.setIfInBounds_toArray, List.set_cons_zero, List.set_cons_succ]
            refine wpG.take0 (i := 8) (by kernel_rfl) (by kernel_rfl) (by kernel_rfl) (by kernel_rfl) HS ?_
            intro oi ho
            simp only [List.getElem?_toArray, List.getElem?_cons_succ, List.getElem?_cons_zero, Option.some.injEq] at ho
            subst ho
            refine ⟨?_, Or.inl ⟨by rfl, ?_⟩, fun _ _ _ h => h, ?_⟩
            rotate_left 1
            · intro W hW
              try dsimp only at hW
              go_simp
              try with_reducible rfl
            simp only [Act.put, List.setIfInBounds_toArray, List.set_cons_zero, List.set_cons_succ]
            refine wpG.take0 (i := 9) (by kernel_rfl) (by kernel_rfl) (by kernel_rfl) (by kernel_rfl) HS ?_
            intro oi ho
            simp only [List.getElem?_toArray, List.getElem?_cons_succ, List.getElem?_cons_zero, Option.some.injEq] at ho
            subst ho
            refine ⟨?_, Or.inl ⟨by rfl, ?_⟩, fun _ _ _ h => h, ?_⟩
            rotate_left 1
            · intro W hW
              try dsimp only at hW
              go_simp
              try with_reducible rfl
            simp only [Act.put, List.setIfInBounds_toArray, List.set_cons_zero, List.set_cons_succ]
            refine wpG.take0 (i := 10) (by kernel_rfl) (by kernel_rfl) (by kernel_rfl) (by kernel_rfl) HS ?_
            intro oi ho
            simp only [List.getElem?_toArray, List.getElem?_cons_succ, List.getElem?_cons_zero, Option.some.injEq] at ho
            subst ho
            refine ⟨?_, Or.inl ⟨by rfl, ?_⟩, fun _ _ _ h => h, ?_⟩
            rotate_left 1
            · intro W hW
              try dsimp only at hW
              go_simp
              try with_reducible rfl
            simp only [Act.put, List.setIfInBounds_toArray, List.set_cons_zero, List.set_cons_succ]
            refine wpG.take0 (i := 11) (by kernel_rfl) (by kernel_rfl) (by kernel_rfl) (by kernel_rfl) HS ?_
            intro oi ho
            simp only [List.getElem?_toArray, List.getElem?_cons_succ, List.getElem?_cons_zero, Option.some.injEq] at ho
            subst ho
            refine ⟨?_, Or.inl ⟨by rfl, ?_⟩, fun _ _ _ h => h, ?_⟩
            rotate_left 1
            · intro W hW
              try dsimp only at hW
              go_simp
              try with_reducible rfl
            simp only [Act.put, List.setIfInBounds_toArray, List.set_cons_zero, List.set_cons_succ]
            refine wpG.one (i := 12) (by kernel_rfl) ?_
            intro oi ho
            simp only [List.getElem?_toArray, List.getElem?_cons_succ, List.getElem?_cons_zero, Option.some.injEq] at ho
            subst ho
            intro K hK
            have HK := Lib.hid hK
            have HSH := Lib.hid HS
            clear hK HS
            go_simp
            have SB : St w (wr.alloc (.cells #[.bool false, .int .i64 X.head, .slice k1 X.kids.length (X.kids.length + s1), .int .i64 Y.head, .slice k2 Y.kids.length (Y.kids.length + s2)] 54)).drew _ := SD.box (b := wr.heap.size) rfl #[.bool false, .int .i64 X.head, .slice k1 X.kids.length (X.kids.length + s1), .int .i64 Y.head, .slice k2 Y.kids.length (Y.kids.length + s2)] 54
            refine HK.out _ _ (fun _ => And.intro (And.intro (SB.cellAt 6) (SB.cellAt 7)) (And.intro (SB.cellAt 8) (SB.cellAt 9))) ?_
            have HS := And.intro (And.intro (SB.cellAt 6) (SB.cellAt 7)) (And.intro (SB.cellAt 8) (SB.cellAt 9))
            try simp only [Act.put, List.setIfInBounds_toArray, List.set_cons_zero, List.set_cons_succ]
            refine wpG.take0 (i := 13) (by kernel_rfl) (by kernel_rfl) (by kernel_rfl) (by kernel_rfl) HS ?_
            intro oi ho
            simp only [List.getElem?_toArray, List.getElem?_cons_succ, List.getElem?_cons_zero, Option.some.injEq] at ho
            subst ho
            refine ⟨?_, Or.inl ⟨by rfl, ?_⟩, fun _ _ _ h => h, ?_⟩
            rotate_left 1
            · intro W hW
              try dsimp only at hW
              go_simp
              try with_reducible rfl
            simp only [Act.put, List.setIfInBounds_toArray, List.set_cons_zero, List.set_cons_succ]
            refine wpG.one (i := 14) (by kernel_rfl) ?_
            intro oi ho
            simp only [List.getElem?_toArray, List.getElem?_cons_succ, List.getElem?_cons_zero, Option.some.injEq] at ho
            subst ho
            intro K hK
            have HK := Lib.hid hK
            have HSH := Lib.hid HS
            clear hK HS
            go_simp
            have SA : St w ((wr.alloc (.cells #[.bool false, .int .i64 X.head, .slice k1 X.kids.length (X.kids.length + s1), .int .i64 Y.head, .slice k2 Y.kids.length (Y.kids.length + s2)] 54)).alloc (.cells #[.slice (some ⟨wr.heap.size, 0, none⟩) 1 1] 24)).drew _ := SB.alloc (.cells #[.slice (some ⟨wr.heap.size, 0, none⟩) 1 1] 24)
            refine HK.out _ _ (fun _ => And.intro (And.intro (SA.cellAt 6) (SA.cellAt 7)) (And.intro (SA.cellAt 8) (SA.cellAt 9))) ?_
            have HS := And.intro (And.intro (SA.cellAt 6) (SA.cellAt 7)) (And.intro (SA.cellAt 8) (SA.cellAt 9))
            try simp only [Act.put, List.setIfInBounds_toArray, List.set_cons_zero, List.set_cons_succ]
            refine wpG.one (i := 15) (by kernel_rfl) ?_
            intro oi ho
            simp only [List.getElem?_toArray, List.getElem?_cons_succ, List.getElem?_cons_zero, Option.some.injEq] at ho
            subst ho
            intro K hK
            have HK := Lib.hid hK
            have HSH := Lib.hid HS
            clear hK HS
            have HFR := Lib.hid (show factE.Row (fun b' => p0 b' ∨ b' = wr.heap.size) (wr.alloc (.cells #[.bool false, .int .i64 X.head, .slice k1 X.kids.length (X.kids.length + s1), .int .i64 Y.head, .slice k2 Y.kids.length (Y.kids.length + s2)] 54)).drew (some ⟨wr.heap.size, 0, none⟩) (claimR (X, Y)) from row_block factE (SB.block 10) (.inr rfl) [[.bool false, .int .i64 X.head, .slice k1 X.kids.length (X.kids.length + s1), .int .i64 Y.head, .slice k2 Y.kids.length (Y.kids.length + s2)]] (claimR (X, Y)) rfl rfl (fun i c x hc hx => by
              rcases i with _ | i
              · simp [claimR] at hc hx; subst hc hx
                exact ⟨k1, s1, k2, s2, rfl, (HX1.out.kept SB.bel).mono (fun _ h _ => .inl h), (HY1.out.kept SB.bel).mono (fun _ h _ => .inl h)⟩
              · simp at hc))
            have HOW := Lib.hid (S.ownlt claimE 5 rfl)
            have HSZ1 := Lib.hid (show (wr.alloc (.cells #[.bool false, .int .i64 X.head, .slice k1 X.kids.length (X.kids.length + s1), .int .i64 Y.head, .slice k2 Y.kids.length (Y.kids.length + s2)] 54)).drew.heap.size = wr.heap.size + 1 by show (wr.alloc (.cells #[.bool false, .int .i64 X.head, .slice k1 X.kids.length (X.kids.length + s1), .int .i64 Y.head, .slice k2 Y.kids.length (Y.kids.length + s2)] 54)).heap.size = _; simp)
            refine step_app (by rfl) (.tmp 60) (.tmp 74) 26 (by rfl) claimE SB 5 rfl (x := claimR (X, Y)) (q := fun b' => p0 b' ∨ b' = wr.heap.size) (p' := (fun b' => p0 b' ∨ b12 + 2 ≤ b')) ⟨some ⟨wr.heap.size, 0, none⟩, 0, rfl, HFR.out, by unfold maxLen; simp [claimR]⟩ Try.underlying26 gi gz0 gz1 gz2 (by rfl) (by rfl) (by rfl) (by rw [HSZ1.out]; rfl) (by have := HLK.out; unfold maxLen; omega) (by have := HLK.out; omega) (by have := SB.lt 10; have h9 : b12 + 2 ≤ wr.heap.size := z9; omega) (by have := HBX.out; have := HB12.out; omega)
              (fun bb h1 h2 h3 => by have h4 := (HOW.out bb h1).2; have h5 := HB12.out; have h6 := HBX.out; have h7 := HP.out b hpb; simp only [fsnoc, offs, offAll, Fct.box, Fct.cellAt, and_true]; omega) (fun bb h1 h2 => by have h4 := HOW.out bb h2; rcases h1 with h1 | h1; exact absurd (HP.out bb h1) (by have := HB12.out; have := HBX.out; omega); omega) (fun bb h1 => by rcases h1 with h1 | h1; exact h1; rcases h1 with h1 | h1; exact .inl h1; exact .inr (by omega)) ?_
            intro gg cap w7 S7 hs7 hgg hat7
            refine HK.out _ _ (fun _ => And.intro (And.intro (S7.cellAt 6) (S7.cellAt 7)) (And.intro (S7.cellAt 8) (S7.cellAt 9))) ?_
            have HS := And.intro (And.intro (S7.cellAt 6) (S7.cellAt 7)) (And.intro (S7.cellAt 8) (S7.cellAt 9))
            try simp only [Act.put, List.setIfInBounds_toArray, List.set_cons_zero, List.set_cons_succ]
            refine wpG.one (i := 16) (by kernel_rfl) ?_
            intro oi ho
            simp only [List.getElem?_toArray, List.getElem?_cons_succ, List.getElem?_cons_zero, Option.some.injEq] at ho
            subst ho
            intro K hK
            have HK := Lib.hid hK
            have HSH := Lib.hid HS
            clear hK HS
            go_simp
            refine HK.out _ _ (fun _ => HSH.out) ?_
            have HS := HSH.out
            try simp only [Act.put, List.setIfInBounds_toArray, List.set_cons_zero, List.set_cons_succ]
            refine wpG.done (by kernel_rfl) ?_
            rw [HLK.out, ← HTK.out] at S7
            have S8 : St w w7 [.box bx #[.int .i64 t.head, .slice tk t.kids.length (t.kids.length + ts)] 44, .box (bx + 1) #[.slice aa ar.length ca, .slice co ncl cc] 29, .box (bx + 2) #[.int .i64 sz, .slice to_ tb.length (tb.length + ct)] 41, .box b12 #[.int .i64 M.head, .slice mk M.kids.length (M.kids.length + ms)] 44, .box (b12 + 1) #[.int .i64 0, .int .i64 0] 32, .owns claimE (b12 + 2) (fun b' => p0 b' ∨ b12 + 2 ≤ b') _ ((rs.map claimR).take (k + 1))] := S7.pick [0, 1, 2, 3, 4, 5]
            have hz8 : b12 + 2 ≤ w7.heap.size := by have := HSZ1.out; omega
            try rw [HLK.out]
            try rw [HLK2.out]
            clear S7 SB SA SD S
            go_wp2_with fail
            go_roundw
            case rel => exact ⟨k + 1, by omega, by go_num, hz8, S8⟩
            case measure => simp [intOf] <;> omega
          · obtain rfl : k = rs.length := by omega
            have HO := Lib.hid (S.owns claimE 5)
            rw [List.take_of_length_le (by simp)] at HO
            obtain ⟨ro2, spo, rfl, hrow2, hml⟩ := HO.out.row (p := (fun b' => p0 b' ∨ b12 + 2 ≤ b')) (fun b h => .inr h)
            have HROW := Lib.hid hrow2
            have S : St w wr [.box bx #[.int .i64 t.head, .slice tk t.kids.length (t.kids.length + ts)] 44, .box (bx + 1) #[.slice aa ar.length ca, .slice co ncl cc] 29, .box (bx + 2) #[.int .i64 sz, .slice to_ tb.length (tb.length + ct)] 41, .box b12 #[.int .i64 M.head, .slice mk M.kids.length (M.kids.length + ms)] 44, .box (b12 + 1) #[.int .i64 0, .int .i64 0] 32] := S.pick [0, 1, 2, 3, 4]
            have HCLL := Lib.hid (show (rs.map claimR).length ≤ maxLen by unfold maxLen; simp; omega)
            obtain ⟨⟨x0, _⟩, x1, _⟩ := S.two 1
            obtain ⟨⟨y0, _⟩, y1, _⟩ := S.two 2
            clear hrow2 HO hml
            go_wp2_with fail
            refine (S.held (by have h := holds25 ar (rs.map claimR) sz tb (fun b' => p0 b' ∨ b12 + 2 ≤ b') q r aa ro2 to_ ca ((rs.map claimR).length + spo) ct _ (HA.out.kept S.bel) HROW.out (HTB.out.kept S.bel) HNA.out HCLL.out HNT.out; simp only [List.length_map] at h; exact h)).mono ?_
            rintro e w7 ⟨rb, rbs, B, C, D, rfl, HB, z10, S7⟩
            obtain ⟨⟨q0, q1⟩, q2, q3⟩ := S7.two 4
            have hl4 := S7.lt 4
            have S8 := S7.set2 4 rfl (.int .i64 C) (.int .i64 D) (by have := HBX.out; have := HB12.out; omega) (by
              have h1 := HB12.out
              simp only [offs, offAll, fsnoc, Fct.box, Fct.rowE, and_true]
              refine ⟨by omega, by omega, by omega, by omega, by omega⟩)
            have z11 : b12 + 2 ≤ ((w7.setCell ⟨b12 + 1, 0, none⟩ (.int .i64 C)).setCell ⟨b12 + 1, 1, none⟩ (.int .i64 D)).heap.size := by simp; omega
            clear S S7 x0 x1 y0 y1
            by_cases hC : C = 0
            · have hcb : (C != 0) = false := by simp [hC]
              have HOK := Lib.hid (holdsF_ok (show (holdsF ar (rs.map claimR) sz tb).2.1 = 0 by rw [HB.out]; exact hC))
              obtain ⟨rfl, rfl, rfl⟩ : B = (rs.map claimR).map (trueF sz.toNat tb) ∧ C = 0 ∧ D = 0 := by
                have h := HB.out.symm.trans HOK.out.2.2
                simpa using h
              have HBL := Lib.hid (show ((rs.map claimR).map (trueF sz.toNat tb)).length = rs.length by simp)
              clear hC hcb
              go_wp2_with fail
              refine S8.genC (z := b12 + 2) z11 ?_
              intro w8 z12 S
              clear S8 z11 q0 q1 q2 q3 hl4
              obtain ⟨PB, S⟩ : ∃ PB : Nat → Prop, St w w8 [.box bx #[.int .i64 t.head, .slice tk t.kids.length (t.kids.length + ts)] 44, .box (bx + 1) #[.slice aa ar.length ca, .slice co ncl cc] 29, .box (bx + 2) #[.int .i64 sz, .slice to_ tb.length (tb.length + ct)] 41, .box b12 #[.int .i64 M.head, .slice mk M.kids.length (M.kids.length + ms)] 44, .box (b12 + 1) #[.int .i64 0, .int .i64 0] 32, .rowE boolE PB rb ((rs.map claimR).map (trueF sz.toNat tb))] := ⟨_, S⟩
              go_loopw [17] (fun i wr => ∃ k : Nat, k ≤ rs.length ∧ i = .int .i64 k ∧ (∀ (j : Nat) f, j < k → rs[j]? = some f → trueF sz.toNat tb (claimR f) = true) ∧ b12 + 2 ≤ wr.heap.size ∧ St w wr [.box bx #[.int .i64 t.head, .slice tk t.kids.length (t.kids.length + ts)] 44, .box (bx + 1) #[.slice aa ar.length ca, .slice co ncl cc] 29, .box (bx + 2) #[.int .i64 sz, .slice to_ tb.length (tb.length + ct)] 41, .box b12 #[.int .i64 M.head, .slice mk M.kids.length (M.kids.length + ms)] 44, .box (b12 + 1) #[.int .i64 0, .int .i64 0] 32, .rowE boolE PB rb ((rs.map claimR).map (trueF sz.toNat tb))]) (fun i _ => rs.length - (intOf i).toNat)
              case atStart => exact ⟨0, by omega, rfl, fun j f hj _ => by omega, z12, S⟩
              case round =>
                clear S
                obtain ⟨k, hk, rfl, hno, z13, S⟩ := hrel
                have HNO := Lib.hid hno
                clear hno
                by_cases hlt : k < rs.length
                · have hlti : (k : Int) < (rs.length : Int) := by omega
                  obtain ⟨bb, boff, hrb, _, hc⟩ := (S.rowE boolE 5).bool (i := k) (by simpa using hlt)
                  obtain ⟨Z, hZ⟩ : ∃ Z, Z = trueF sz.toNat tb (claimR rs[k]) := ⟨_, rfl⟩
                  rw [show ((rs.map claimR).map (trueF sz.toNat tb))[k]'(by simpa using hlt) = Z by rw [hZ]; simp] at hc
                  have HZ := Lib.hid hZ
                  subst hrb
                  clear hZ
                  cases Z with
                  | false =>
                    have SE := Lib.hid S.bel
                    clear S
                    go_wp2_with fail
                    go_ret
                    exact ⟨rfl, SE.out⟩
                  | true =>
                    have HN2 := Lib.hid (show ∀ (j : Nat) f, j < k + 1 → rs[j]? = some f → trueF sz.toNat tb (claimR f) = true from fun j f hj hf => by
                      rcases Nat.lt_succ_iff_lt_or_eq.1 hj with h | rfl
                      · exact HNO.out j f h hf
                      · rw [List.getElem?_eq_getElem hlt] at hf; obtain rfl := Option.some.inj hf; exact HZ.out.symm)
                    go_wp2_with fail
                    go_roundw
                    case rel => exact ⟨k + 1, by omega, by go_num, HN2.out, z13, S⟩
                    case measure => simp [intOf] <;> omega
                · obtain rfl : k = rs.length := by omega
                  have S : St w wr [.box bx #[.int .i64 t.head, .slice tk t.kids.length (t.kids.length + ts)] 44, .box (bx + 1) #[.slice aa ar.length ca, .slice co ncl cc] 29, .box (bx + 2) #[.int .i64 sz, .slice to_ tb.length (tb.length + ct)] 41, .box b12 #[.int .i64 M.head, .slice mk M.kids.length (M.kids.length + ms)] 44, .box (b12 + 1) #[.int .i64 0, .int .i64 0] 32] := S.pick [0, 1, 2, 3, 4]
                  obtain ⟨⟨x0, _⟩, x1, _⟩ := S.two 0
                  go_wp2_with fail
                  obtain ⟨fu, hfu⟩ : ∃ f : Int, (40 : Int) = f := ⟨_, rfl⟩
                  refine (S.donedM (r := doR rs t fu) (by rw [hfu]; exact do37 rs t fu p0 _ ao c _ (fun b hb => by have := HP.out b hb; have := S.bel.size; omega) (HW.out.kept S.bel) (HT.out.kept S.bel) hn)).mono ?_
                  clear hfu
                  rintro e w9 ⟨st, u, uk, us, gc, gd, rfl, HDO, z14, S9⟩
                  obtain ⟨⟨q0, q1⟩, q2, q3⟩ := S9.two 4
                  obtain ⟨⟨v0, v1⟩, v2, v3⟩ := S9.two 3
                  have hl4 := S9.lt 4
                  have hl3 := S9.lt 3
                  have n1 : ¬ b12 = b12 + 1 := by omega
                  have n2 : ¬ b12 + 1 = b12 := by omega
                  have SQ := (S9.set2 3 rfl (.int .i64 u.head) (.slice uk u.kids.length (u.kids.length + us)) (by have := HBX.out; have := HB12.out; omega) (by
                    have h1 := HB12.out
                    simp only [offs, offAll, fsnoc, Fct.box, Fct.treeP, and_true]
                    refine ⟨by omega, by omega, by omega, by omega, by omega⟩)).set2 4 rfl (.int .i64 gc) (.int .i64 gd) (by have := HBX.out; have := HB12.out; omega) (by
                    have h1 := HB12.out
                    simp only [offs, offAll, fset, fsnoc, Fct.box, Fct.treeP, and_true]
                    refine ⟨by omega, by omega, by omega, by omega, by omega⟩)
                  clear S S9 x0 x1
                  by_cases hg : gc = 0
                  · have hgb : (gc != 0) = false := by simp [hg]
                    have HG := Lib.hid (doR_good (show (doR rs t fu).2.2.1 = 0 by rw [HDO.out]; exact hg))
                    have HU := Lib.hid (show u = (normN rs fu.toNat t).2 by
                      have h := HDO.out.symm.trans HG.out.2.2
                      simp only [Prod.mk.injEq] at h
                      exact h.2.1)
                    clear hg
                    have HZ9 := Lib.hid (show b12 + 2 ≤ wr.heap.size ∧ wr.heap.size ≤ w9.heap.size by omega)
                    have zq0 : w9.heap.size ≤ ((((w9.setCell ⟨b12, 0, none⟩ (.int .i64 u.head)).setCell ⟨b12, 1, none⟩ (.slice uk u.kids.length (u.kids.length + us))).setCell ⟨b12 + 1, 0, none⟩ (.int .i64 gc)).setCell ⟨b12 + 1, 1, none⟩ (.int .i64 gd)).heap.size := by simp
                    go_upto_region 22 with (fail)
                    refine SQ.genC (z := w9.heap.size) zq0 ?_
                    intro wq zq SP
                    clear SQ q0 q1 q2 q3 v0 v1 v2 v3 hl3 hl4 zq0
                    obtain ⟨b18, hb18⟩ : ∃ b, b = wq.heap.size := ⟨_, rfl⟩
                    have SR := SP.box hb18.symm #[.slice aa ar.length ca, .slice none 0 0] 29
                    have H18 := Lib.hid (show b12 + 2 ≤ wr.heap.size ∧ wr.heap.size ≤ w9.heap.size ∧ w9.heap.size ≤ b18 by have := HZ9.out; omega)
                    obtain ⟨⟨x0, _⟩, x1, _⟩ := SR.two 0
                    obtain ⟨⟨x2, _⟩, x3, _⟩ := SR.two 2
                    obtain ⟨⟨x4, _⟩, x5, _⟩ := SP.two 1
                    clear SP
                    go_wp2_with fail
                    rw [← hb18]
                    refine SR.gen (z := b18 + 1) (by simp [hb18]) ?_
                    intro wA zA SA
                    clear SR hb18 x0 x1 x2 x3 x4 x5
                    refine (SA.valued (value24 ar [] sz tb t th (fun _ => True) q r (fun _ => True) aa none to_ tho ca 0 ct cth _ _ (HA.out.kept SA.bel) Elt.Row.nil (HTB.out.kept SA.bel) (HT.out.kept SA.bel).at (HTH.out.kept SA.bel) HNA.out (by unfold maxLen; simp) HNT.out (by unfold maxLen; omega) (by omega))).mono ?_
                    rintro e wB ⟨V, C2, D2, rfl, HV, zB, SB⟩
                    obtain ⟨⟨q0, q1⟩, q2, q3⟩ := SB.two 4
                    have hl4 := SB.lt 4
                    have SC := SB.set2 4 rfl (.int .i64 C2) (.int .i64 D2) (by have := HBX.out; have := HB12.out; omega) (by
                    have h1 := HB12.out; have h2 := H18.out
                    simp only [offs, offAll, fset, fsnoc, Fct.box, Fct.treeP, and_true]
                    refine ⟨by omega, by omega, by omega, by omega, by omega, by omega⟩)
                    clear SA SB
                    by_cases hC2 : C2 = 0
                    · have hcb : (C2 != 0) = false := by simp [hC2]
                      have HVO := Lib.hid (valueF_ok (show (valueF ar [] sz tb t th).2.1 = 0 by rw [HV.out]; exact hC2))
                      obtain ⟨rfl, rfl, rfl⟩ : V = t.ev sz.toNat tb th ∧ C2 = 0 ∧ D2 = 0 := by
                        have h := HV.out.symm.trans HVO.out.2.2.2.2
                        simpa using h
                      obtain ⟨V, hV⟩ : ∃ V, V = t.ev sz.toNat tb th := ⟨_, rfl⟩
                      rw [← hV]
                      have HV2 := Lib.hid (show valueF ar [] sz tb u th = (V, (0, 0)) by
                        obtain ⟨_, _, s', hs', hT'⟩ := tabF_zero HVO.out.1
                        subst hs'
                        have hl := loreF_zero (tabF_zero HOK.out.1).2.1
                        have hru : ∀ f ∈ rs, RuleOK ar s' tb f := fun f hf => by
                          obtain ⟨j, hj, rfl⟩ := List.getElem_of_mem hf
                          exact rule_ok hT'.1 (hl.2.2.2.2 _ (List.mem_map_of_mem (List.getElem_mem hj))) (HOK.out.2.1 _ (List.mem_map_of_mem (List.getElem_mem hj))) (HNO.out j _ hj (List.getElem?_eq_getElem hj))
                        obtain ⟨h1, h2, h3⟩ := norm_ev hT' hru fu.toNat t HVO.out.2.2.1 HVO.out.2.1 HG.out.2.1
                        rw [HU.out, valueF_of HVO.out.1 h1 h2 HVO.out.2.2.2.1, hV]
                        exact congrArg (fun z => (z, ((0 : Int), (0 : Int)))) (h3 th HVO.out.2.2.2.1))
                      clear hC2 hV hcb
                      obtain ⟨⟨x0, _⟩, x1, _⟩ := SC.two 6
                      obtain ⟨⟨x2, _⟩, x3, _⟩ := SC.two 2
                      obtain ⟨⟨x4, _⟩, x5, _⟩ := SC.two 3
                      go_wp2_with fail
                      refine SC.gen (z := 0) (by omega) ?_
                      intro wC zC SD
                      clear SC x0 x1 x2 x3 x4 x5 q0 q1 q2 q3 hl4
                      refine (SD.valued (value24 ar [] sz tb u th (fun _ => True) q r (fun _ => True) aa none to_ tho ca 0 ct cth _ _ (HA.out.kept SD.bel) Elt.Row.nil (HTB.out.kept SD.bel) (St.treeP SD 5 rfl).at (HTH.out.kept SD.bel) HNA.out (by unfold maxLen; simp) HNT.out (by unfold maxLen; omega) (by omega))).mono ?_
                      rintro e wD ⟨V2, C3, D3, rfl, HV3, zD, SE1⟩
                      obtain ⟨rfl, rfl, rfl⟩ : V2 = V ∧ C3 = 0 ∧ D3 = 0 := by have h := HV3.out.symm.trans HV2.out; simpa using h
                      obtain ⟨⟨q0, q1⟩, q2, q3⟩ := SE1.two 4
                      have hl4 := SE1.lt 4
                      have hvv : (V2 == V2) = true := by simp
                      have SE := Lib.hid ((SE1.bel.setCell (p := ⟨b12 + 1, 0, none⟩) (by have := HBX.out; have := HB12.out; show w.heap.size ≤ b12 + 1; omega) (.int .i64 0)).setCell (p := ⟨b12 + 1, 1, none⟩) (by have := HBX.out; have := HB12.out; show w.heap.size ≤ b12 + 1; omega) (.int .i64 0))
                      clear SD SE1
                      go_wp2_with fail
                      go_ret
                      exact ⟨rfl, SE.out⟩
                    · have hcb : (C2 != 0) = true := by simp [hC2]
                      have hV0 : V = 0 := by
                        have h := valueF_bad (ar := ar) (cs := []) (sz := sz) (tb := tb) (x := t) (th := th) (by rw [HV.out]; exact hC2)
                        rw [HV.out] at h; exact h
                      subst hV0
                      have SE := Lib.hid SC.bel
                      clear hC2 SC
                      go_wp2_with fail
                      go_ret
                      exact ⟨rfl, SE.out⟩
                  · have hgb : (gc != 0) = true := by simp [hg]
                    have hu0 : u = zeroT := by
                      have h := doR_bad (rs := rs) (t := t) (f := fu) (by rw [HDO.out]; exact hg)
                      rw [HDO.out] at h; exact h
                    have HZU := Lib.hid (show decide (u.head = 0 ∧ u.kids.length = 0) = true by rw [hu0]; rfl)
                    clear hg hu0
                    go_wp2_with fail
                    refine (SQ.quiet (by have h := none24 u _ _ (St.treeP SQ 5 rfl).at; rw [HZU.out] at h; exact h)).mono ?_
                    rintro e wZ ⟨rfl, zZ, SZ⟩
                    have SE := Lib.hid SZ.bel
                    clear SQ SZ
                    go_wp2_with fail
                    go_ret
                    exact ⟨rfl, SE.out⟩
            · have hcb : (C != 0) = true := by simp [hC]
              have hB0 : B = [] := by
                have h := holdsF_bad (ar := ar) (cs := (rs.map claimR)) (sz := sz) (tb := tb) (by rw [HB.out]; exact hC)
                rw [HB.out] at h; exact h
              subst hB0
              have SE := Lib.hid S8.bel
              clear hC S8
              go_wp2_with fail
              go_ret
              exact ⟨rfl, SE.out⟩
end Go.Proofs.Yteekoclfpehnpaa
