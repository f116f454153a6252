/-
  The law TableSays: for any lore, table, tree and things it answers true.
-/
import Derived.Test.YteekoclfpehnpaaProg
import Derived.Test.YteekoclfpehnpaaV11
import Derived.Test.YteekoclfpehnpaaV12
import Derived.Test.YteekoclfpehnpaaV13
import Derived.Test.YteekoclfpehnpaaZ4
import Derived.Test.YteekoclfpehnpaaZ7
import Derived.Test.YteekoclfpehnpaaY1
import Derived.Test.YteekoclfpehnpaaR6
import Derived.RegionTactic
import Derived.BigQuiet
import Derived.Deep.Cut
namespace Go.Proofs.Yteekoclfpehnpaa
open Go.RowKit Go.Shelf
set_option linter.unusedVariables false
set_option maxHeartbeats 400000

theorem St.heldS {P : Program} {n : Nat} {a : Array Value} {w0 w : World} {l : List Fct} (S : St w0 w l) {r : List Bool × (Int × Int)} (h : Calls P n a w (HoldsP r w)) :
    Calls P n a w fun e w' => ∃ ro sp B c d, e = .returned (.tuple #[.slice ro B.length (B.length + sp), .agg #[.int .i64 c, .int .i64 d]]) ∧ Hid (r = (B, (c, d))) ∧ w.heap.size ≤ w'.heap.size ∧ St w0 w' (fsnoc l (.rowE boolE (fun b => w.heap.size ≤ b ∧ b < w'.heap.size) ro B)) :=
  h.mono fun e w' ⟨ro, sp, h1, h2, h3⟩ => ⟨ro, sp, r.1, r.2.1, r.2.2, h1, rfl, h3.size, (S.step h3).add (.rowE boolE _ ro r.1) (h2.mono (fun b hb hl => ⟨hb, hl⟩))⟩
theorem St.valuedS {P : Program} {n : Nat} {a : Array Value} {w0 w : World} {l : List Fct} (S : St w0 w l) {r : Int × (Int × Int)} (h : Calls P n a w fun e w' => e = .returned (.tuple #[.int .i64 r.1, FV r.2]) ∧ Below w.heap.size w w') :
    Calls P n a w fun e w' => ∃ v c d, e = .returned (.tuple #[.int .i64 v, .agg #[.int .i64 c, .int .i64 d]]) ∧ Hid (r = (v, (c, d))) ∧ w.heap.size ≤ w'.heap.size ∧ St w0 w' l :=
  h.mono fun e w' ⟨h1, h2⟩ => ⟨r.1, r.2.1, r.2.2, h1, rfl, h2.size, S.step h2⟩
theorem vastC_smallS {c : List Fc} (h : vastC c = false) : (treesF c).length ≤ 40 ∧ ∀ (i : Nat) t, (treesF c)[i]? = some t → t.size ≤ 200 := by
  unfold vastC at h
  rw [Bool.or_eq_false_iff] at h
  refine ⟨by have := of_decide_eq_false h.1; omega, fun i t ht => ?_⟩
  have h2 := (List.any_eq_false.1 h.2) t (List.mem_of_getElem? ht)
  unfold bigT at h2
  have h3 := of_decide_eq_false (by simpa using h2 : decide ((200 : Int) < t.size) = false)
  omega
theorem vastL_small {na : Nat} {cs : List (List Fc)} (h : vastL na cs = false) : na ≤ 40 ∧ cs.length ≤ 80 ∧ (∀ (i : Nat) c, cs[i]? = some c → c.length ≤ 40) ∧ ∀ (i : Nat) c, cs[i]? = some c → ∀ (j : Nat) t, (treesF c)[j]? = some t → t.size ≤ 200 := by
  unfold vastL at h
  rw [Bool.or_eq_false_iff, Bool.or_eq_false_iff] at h
  have h1 := of_decide_eq_false h.1.1
  have h2 := of_decide_eq_false h.1.2
  have h3 : ∀ (i : Nat) c, cs[i]? = some c → vastC c = false := fun i c hc => by
    have := (List.any_eq_false.1 h.2) c (List.mem_of_getElem? hc)
    simpa using this
  refine ⟨by omega, by omega, fun i c hc => ?_, fun i c hc j t ht => (vastC_smallS (h3 i c hc)).2 j t ht⟩
  have h4 := (vastC_smallS (h3 i c hc)).1
  rw [treesF_length] at h4
  omega
set_option maxRecDepth 100000 in
set_option maxHeartbeats 4000000 in
theorem vastLoreS (na : Nat) (cs : List (List Fc)) (p : Nat → Prop) (aa co : Option Addr) (ca cc : Nat) (w : World) (h : claimE.Row p w co cs) (hp : ∀ b, p b → b < w.heap.size) (hna : na ≤ 2000000) (hn : cs.length ≤ 1000000)
    (hf : ∀ (i : Nat) c, cs[i]? = some c → c.length ≤ 1000000) (hs : ∀ (i : Nat) c, cs[i]? = some c → ∀ (j : Nat) t, (treesF c)[j]? = some t → t.size ≤ 2000000) :
    Calls Try.prog 15 #[.agg #[.slice aa na ca, .slice co cs.length cc]] w fun e w' => e = .returned (.bool (vastL na cs)) ∧ Below w.heap.size w w' := by
  by_cases h1 : na ≤ 1000000
  · exact vastLore15 na cs p aa co ca cc w h hp h1 hn hf hs
  obtain ⟨bx, hbx⟩ : ∃ b, b = w.heap.size := ⟨_, rfl⟩
  have S := (St.start w).box hbx.symm #[.slice aa na ca, .slice co cs.length cc] 29
  have HBX := Lib.hid hbx
  clear h hp hs hf
  have HV := Lib.hid (show vastL na cs = true by unfold vastL; rw [decide_eq_true (show 40 < na by omega)]; simp)
  have SE := Lib.hid S.bel
  have h4i : (40 : Int) < (na : Int) := by omega
  by_cases h8 : 80 < cs.length
  · have h8i : (80 : Int) < (cs.length : Int) := by omega
    clear S h8 h1 hna
    go_enter Try.func15, Try.ntmps15
    go_wp2_with fail
    go_ret
    exact ⟨ret_bool HV.out.symm, SE.out⟩
  · have h8i : ¬ (80 : Int) < (cs.length : Int) := by omega
    clear S h8 h1 hna
    go_enter Try.func15, Try.ntmps15
    go_wp2_with fail
    go_ret
    exact ⟨ret_bool HV.out.symm, SE.out⟩
theorem valueF_bad {ar : List Int} {cs : List (List Fc)} {sz : Int} {tb : List (List Int)} {x : T} {th : List Int} (h : (tabF ar cs sz tb).1 ≠ 0) : valueF ar cs sz tb x th = (0, tabF ar cs sz tb) := by
  unfold valueF; rw [if_pos h]
theorem holdsF_bad {ar : List Int} {cs : List (List Fc)} {sz : Int} {tb : List (List Int)} (h : (tabF ar cs sz tb).1 ≠ 0) : holdsF ar cs sz tb = ([], tabF ar cs sz tb) := by
  unfold holdsF; rw [if_pos h]
/-- what is wrong with the tree or the things -/
noncomputable def wrongV (s : Nat) (E : Int) (th : List Int) : Int × Int := if E ≠ 0 then (E, -2) else if th.any (outS s) = true then (3, -3) else (0, 0)
/-- which claim is too wide -/
noncomputable def wrongH (s : Nat) (cs : List (List Fc)) : Int × Int := if 0 ≤ idxP (wideB s) cs then (10, idxP (wideB s) cs) else (0, 0)
theorem valueF_good {ar : List Int} {cs : List (List Fc)} {s : Nat} {tb : List (List Int)} {x : T} {th : List Int} (h : (tabF ar cs s tb).1 = 0) : valueF ar cs s tb x th = (if (wrongV s (codeF ar [factX x]) th).1 = 0 then x.ev s tb th else 0, wrongV s (codeF ar [factX x]) th) := by
  unfold valueF wrongV
  rw [if_neg (by simpa using h)]
  by_cases h1 : codeF ar [factX x] ≠ 0
  · rw [if_pos h1, if_pos h1, if_neg h1]
  · rw [if_neg h1, if_neg h1]
    by_cases h2 : th.any (outS s) = true
    · have h3 : th.any (outS ((s : Int).toNat)) = true := h2
      rw [if_pos h3, if_pos h2]; rfl
    · have h3 : ¬ th.any (outS ((s : Int).toNat)) = true := h2
      rw [if_neg h3, if_neg h2]; rfl
theorem holdsF_good {ar : List Int} {cs : List (List Fc)} {s : Nat} {tb : List (List Int)} (h : (tabF ar cs s tb).1 = 0) : holdsF ar cs s tb = (if (wrongH s cs).1 = 0 then cs.map (trueF s tb) else [], wrongH s cs) := by
  unfold holdsF wrongH
  rw [if_neg (by simpa using h)]
  by_cases h2 : 0 ≤ idxP (wideB s) cs
  · have h3 : 0 ≤ idxP (wideB ((s : Int).toNat)) cs := h2
    rw [if_pos h3, if_pos h2]; rfl
  · have h3 : ¬ 0 ≤ idxP (wideB ((s : Int).toNat)) cs := h2
    rw [if_neg h3, if_neg h2]; rfl
theorem in28s (n lo hi : Int) (w : World) : Calls Try.prog 28 #[.int .i64 n, .int .i64 lo, .int .i64 hi] w fun e w' => e = .returned (.bool (decide (lo ≤ n ∧ n ≤ hi))) ∧ Below w.heap.size w w' :=
  (in28 n lo hi w).mono fun e w' ⟨h1, h2⟩ => ⟨h1, by rw [h2]; exact Below.refl _ _⟩
theorem power30s (b n : Nat) (w : World) (hb : b ≤ 4) (hn : n ≤ 12) : Calls Try.prog 30 #[.int .i64 b, .int .i64 n] w fun e w' => e = .returned (.int .i64 (b ^ n : Nat)) ∧ Below w.heap.size w w' :=
  (power30 b n w hb hn).mono fun e w' ⟨h1, h2⟩ => ⟨h1, by rw [h2]; exact Below.refl _ _⟩
theorem wrongV_zero {s : Nat} {E : Int} {th : List Int} (h : (wrongV s E th).1 = 0) : E = 0 ∧ ThOK s th := by
  unfold wrongV at h
  by_cases h1 : E ≠ 0
  · rw [if_pos h1] at h; exact absurd h h1
  · rw [if_neg h1] at h
    by_cases h2 : th.any (outS s) = true
    · rw [if_pos h2] at h; cases h
    · refine ⟨by omega, fun y hy => ?_⟩
      have h3 : ¬ outS s y = true := fun e => h2 (List.any_eq_true.2 ⟨y, hy, e⟩)
      unfold outS at h3
      rw [Bool.or_eq_true, decide_eq_true_eq, decide_eq_true_eq] at h3
      omega
theorem power30X {b n PW : Nat} (hP : b ^ n = PW) (w : World) (hb : b ≤ 4) (hn : n ≤ 12) : Calls Try.prog 30 #[.int .i64 b, .int .i64 n] w fun e w' => e = .returned (.int .i64 (PW : Nat)) ∧ Below w.heap.size w w' := by
  have h := power30s b n w hb hn
  rw [hP] at h
  exact h
theorem all32X {s : Nat} {tb : List (List Int)} {fs : List Fc} {X : Bool} (hX : allF s tb fs (varsC fs) [] = X) (ar : List Int) (hT : TabOK ar s tb) (hok : ∀ t ∈ treesF fs, t.sig ar) (hn : fs.length ≤ 1000000) (hvs : varsC fs ≤ 1000) (p r : Nat → Prop) (to_ co : Option Addr) (ct sp : Nat) (w : World) (hrow : intsE.Row r w to_ tb) (h : factE.Row p w co fs) :
    Calls Try.prog 32 #[.agg #[.int .i64 s, .slice to_ tb.length (tb.length + ct)], .agg #[.slice co fs.length (fs.length + sp)], .slice none 0 0, .int .i64 (varsC fs : Nat)] w fun e w' => e = .returned (.bool X) ∧ Below w.heap.size w w' := by
  have h := all32 ar s tb hT fs hok hn (varsC fs) hvs (varsC fs) [] (by simp) (fun x hx => by cases hx) p (fun _ => True) r to_ co none ct sp 0 w (fun _ => rfl) hrow h Elt.Row.nil
  rw [hX] at h
  exact h
theorem code_low {ar : List Int} {fs : List Fc} (h : codeF ar fs = 0) : ∀ t ∈ treesF fs, t.low := fun t ht => low_of_pre t (treeF_ok.1 ((codeF_zero.1 h).2 t ht).1).2.2
theorem code_vars {ar : List Int} {fs : List Fc} (h : codeF ar fs = 0) : varsC fs ≤ 8 := by
  have := mostL_bound (l := treesF fs) (fun t ht => ((codeF_zero.1 h).2 t ht).1)
  rw [← varsC_cast] at this; omega

set_option maxRecDepth 100000 in
set_option maxHeartbeats 16000000 in
theorem tableSays4 (ar : List Int) (cs : List (List Fc)) (sz : Int) (tb : List (List Int)) (x : T) (th : List Int) (p q r u px : Nat → Prop) (ao co to_ tho : Option Addr) (ca cc ct cth : Nat) (v : Value) (w : World) (ha : intE.Row q w ao ar) (h : claimE.Row p w co cs) (ht : intsE.Row r w to_ tb) (hx : TreeP px w v x) (hth : intE.Row u w tho th)
    (hp : ∀ b, p b → b < w.heap.size) (hpx : ∀ b, px b → b < w.heap.size) (hna : ar.length ≤ 2000000) (hn : cs.length ≤ 1000000) (hnt : tb.length ≤ maxLen) (hnh : th.length ≤ 1000000000)
    (hf : ∀ (i : Nat) c, cs[i]? = some c → c.length ≤ 1000000) (hs : ∀ (i : Nat) c, cs[i]? = some c → ∀ (j : Nat) t, (treesF c)[j]? = some t → t.size ≤ 2000000) (hxs : x.size ≤ 2000000) :
    Calls Try.prog 4 #[.agg #[.slice ao ar.length ca, .slice co cs.length cc], .agg #[.int .i64 sz, .slice to_ tb.length (tb.length + ct)], v, .slice tho th.length cth] w fun e w' => e = .returned (.bool true) ∧ Below w.heap.size w w' := by
  obtain ⟨xk, xs, rfl⟩ := hx.at.form
  have HC := Lib.hid h; have HA := Lib.hid ha; have HT := Lib.hid ht; have HX := Lib.hid hx; have HTH := Lib.hid hth; have HP := Lib.hid hp; have HPX := Lib.hid hpx; have HNT := Lib.hid hnt; have HF := Lib.hid hf; have HS := Lib.hid hs
  have HN := Lib.hid (show ar.length ≤ 2000000 ∧ cs.length ≤ 1000000 ∧ th.length ≤ 1000000000 from ⟨hna, hn, hnh⟩)
  have HML := Lib.hid (show ar.length ≤ maxLen ∧ cs.length ≤ maxLen ∧ th.length ≤ maxLen from by unfold maxLen; omega)
  have hth63 : th.length ≤ 9223372036854775807 := by omega
  have hcs63 : cs.length ≤ 9223372036854775807 := by omega
  obtain ⟨bx, hbx⟩ : ∃ b, b = w.heap.size := ⟨_, rfl⟩
  have S1 := (((St.start w).box hbx.symm #[.slice ao ar.length ca, .slice co cs.length cc] 29).box (b := bx + 1) (by simp [hbx]) #[.int .i64 sz, .slice to_ tb.length (tb.length + ct)] 41).box (b := bx + 2) (by simp [hbx]) #[.int .i64 x.head, .slice xk x.kids.length (x.kids.length + xs)] 44
  have hsz1 : (((w.alloc (.cells #[.slice ao ar.length ca, .slice co cs.length cc] 29)).alloc (.cells #[.int .i64 sz, .slice to_ tb.length (tb.length + ct)] 41)).alloc (.cells #[.int .i64 x.head, .slice xk x.kids.length (x.kids.length + xs)] 44)).heap.size = bx + 3 := by simp [hbx]
  clear h ha ht hx hth hp hpx hnt hf hs hna hn hnh
  go_enter Try.func4, Try.ntmps4
  go_wp2_with fail
  rw [← hbx]
  refine S1.gen (z := bx + 3) (by omega) ?_
  intro w1 z1 S
  have HBX := Lib.hid hbx
  clear S1 hbx hsz1
  refine (S.quiet (vastLoreS ar.length cs p ao co ca cc w1 (HC.out.kept S.bel) (fun b hb => by have := HP.out b hb; have := S.bel.size; omega) HN.out.1 HN.out.2.1 HF.out HS.out)).mono ?_
  rintro e w2 ⟨rfl, z2, S2⟩
  clear S
  cases hv : vastL ar.length cs with
  | true =>
    clear hv
    have SE := Lib.hid S2.bel
    clear S2
    go_wp2_with fail
    go_ret
    exact ⟨rfl, SE.out⟩
  | false =>
    have HVS := Lib.hid (vastL_small hv)
    have HS := Lib.hid (show ∀ (i : Nat) c, cs[i]? = some c → ∀ (j : Nat) t, (treesF c)[j]? = some t → t.size ≤ 1000000 from fun i c hc j t ht => by have := HVS.out.2.2.2 i c hc j t ht; omega)
    clear hv HVS
    obtain ⟨⟨x0, _⟩, x1, _⟩ := S2.two 2
    go_wp2_with fail
    refine (S2.quiet (vast15 x _ w2 (by omega) (HX.out.kept S2.bel).at)).mono ?_
    rintro e w3 ⟨rfl, z3, S3⟩
    clear S2 x0 x1
    cases hv : decide ((200 : Int) < x.size) with
    | true =>
      clear hv
      have SE := Lib.hid S3.bel
      clear S3
      go_wp2_with fail
      go_ret
      exact ⟨rfl, SE.out⟩
    | false =>
      have HXS := Lib.hid (show x.size ≤ 1000000 by have := of_decide_eq_false hv; omega)
      clear hv hxs
      obtain ⟨⟨x0, _⟩, x1, _⟩ := S3.two 0
      obtain ⟨⟨y0, _⟩, y1, _⟩ := S3.two 1
      go_wp2_with fail
      refine (S3.faultF (table23 ar cs sz tb p q r ao co to_ ca cc ct w3 (HA.out.kept S3.bel) (HC.out.kept S3.bel) (HT.out.kept S3.bel) (fun b hb => by have := HP.out b hb; have := S3.bel.size; omega) (by have := HN.out.1; omega) HN.out.2.1 HNT.out HF.out HS.out)).mono ?_
      rintro e w4 ⟨C, D, rfl, HCD, z4, S4⟩
      clear S3 x0 x1 y0 y1
      obtain ⟨b9, hb9⟩ : ∃ b, b = w4.heap.size := ⟨_, rfl⟩
      have S5 := S4.box hb9.symm #[.int .i64 C, .int .i64 D] 32
      have z5 : b9 + 1 ≤ (w4.alloc (.cells #[.int .i64 C, .int .i64 D] 32)).heap.size := by simp [hb9]
      have HB9 := Lib.hid (show bx + 3 ≤ b9 by omega)
      clear S4
      obtain ⟨⟨x0, _⟩, x1, _⟩ := S5.two 0
      obtain ⟨⟨y0, _⟩, y1, _⟩ := S5.two 1
      obtain ⟨⟨u0, _⟩, u1, _⟩ := S5.two 2
      go_wp2_with fail
      rw [← hb9]
      refine S5.gen (z := b9 + 1) z5 ?_
      intro w5 z5' S
      clear S5 z5 hb9 x0 x1 y0 y1 u0 u1
      refine (S.valuedS (value24 ar cs sz tb x th p q r u ao co to_ tho ca cc ct cth _ _ (HA.out.kept S.bel) (HC.out.kept S.bel) (HT.out.kept S.bel) (HX.out.kept S.bel).at (HTH.out.kept S.bel) HML.out.1 HML.out.2.1 HNT.out HML.out.2.2 HN.out.2.2)).mono ?_
      rintro e w6 ⟨V, F1, F2, rfl, HV, z6, S6⟩
      clear S
      obtain ⟨b11, hb11⟩ : ∃ b, b = w6.heap.size := ⟨_, rfl⟩
      have S7 := S6.box hb11.symm #[.int .i64 F1, .int .i64 F2] 32
      have z7 : b11 + 1 ≤ (w6.alloc (.cells #[.int .i64 F1, .int .i64 F2] 32)).heap.size := by simp [hb11]
      have HB11 := Lib.hid (show b9 + 1 ≤ b11 by omega)
      clear S6
      obtain ⟨⟨x0, _⟩, x1, _⟩ := S7.two 0
      obtain ⟨⟨y0, _⟩, y1, _⟩ := S7.two 1
      go_wp2_with fail
      rw [← hb11]
      refine S7.gen (z := b11 + 1) z7 ?_
      intro w7 z7' S
      clear S7 z7 hb11 x0 x1 y0 y1
      refine (S.heldS (holds25 ar cs sz tb p q r ao co to_ ca cc ct w7 (HA.out.kept S.bel) (HC.out.kept S.bel) (HT.out.kept S.bel) HML.out.1 HML.out.2.1 HNT.out)).mono ?_
      rintro e w8 ⟨ro, rsp, B, G1, G2, rfl, HB, z8, S8⟩
      obtain ⟨b13, hb13⟩ : ∃ b, b = w8.heap.size := ⟨_, rfl⟩
      obtain ⟨pb, hpb⟩ : ∃ pb : Nat → Prop, pb = fun b => w7.heap.size ≤ b ∧ b < w8.heap.size := ⟨_, rfl⟩
      rw [← hpb] at S8
      have HPB := Lib.hid (show ∀ b, pb b → b11 + 1 ≤ b ∧ b < b13 from fun b hb => by rw [hpb] at hb; have := hb.1; have := hb.2; omega)
      clear hpb
      have S9 := S8.box hb13.symm #[.int .i64 G1, .int .i64 G2] 32
      have z9 : b13 + 1 ≤ (w8.alloc (.cells #[.int .i64 G1, .int .i64 G2] 32)).heap.size := by simp [hb13]
      have HB13 := Lib.hid (show b11 + 1 ≤ b13 by omega)
      clear S8 S
      go_wp2_with fail
      rw [← hb13]
      refine S9.genC (z := b13 + 1) z9 ?_
      intro w9 z9' S
      clear S9 z9 hb13
      have S : St w w9 [.box bx #[.slice ao ar.length ca, .slice co cs.length cc] 29, .box (bx + 1) #[.int .i64 sz, .slice to_ tb.length (tb.length + ct)] 41, .box (bx + 2) #[.int .i64 x.head, .slice xk x.kids.length (x.kids.length + xs)] 44, .box b9 #[.int .i64 C, .int .i64 D] 32, .box b11 #[.int .i64 F1, .int .i64 F2] 32, .rowE boolE pb ro B, .box b13 #[.int .i64 G1, .int .i64 G2] 32] := S
      obtain ⟨⟨x0, _⟩, x1, _⟩ := S.two 0
      obtain ⟨⟨y0, _⟩, y1, _⟩ := S.two 1
      obtain ⟨⟨u0, _⟩, u1, _⟩ := S.two 3
      have CA := Lib.hid (fun d os => Calls.regrown_of (tab26 ar cs sz tb p q r ao co to_ ca cc ct (Go.Sort.grow (redrawn w9 d) os) (HA.out.kept (S.regrown d os).bel) (HC.out.kept (S.regrown d os).bel) (HT.out.kept (S.regrown d os).bel) HML.out.1 HML.out.2.1 HNT.out))
      rw [HCD.out] at CA
      simp only [FV] at CA
      have r0 := cell_regrown x0; have r1 := cell_regrown x1; have r2 := cell_regrown y0; have r3 := cell_regrown y1; have r4 := cell_regrown u0; have r5 := cell_regrown u1
      clear x0 x1 y0 y1 u0 u1
      refine wp_region_quiet_below (by kernel_rfl) (by kernel_rfl) ?_
      repeat (go_big_quiet_step (first | with_reducible exact CA.out _ _))
      refine wpQuiet_nil ?_
      intro _ hw'
      obtain ⟨⟨dq, osq⟩, hw''⟩ := hw'
      subst hw''
      refine (S.regrown dq osq).genX (z := b13 + 1) (Nat.le_trans z9' (below_regrown w9 dq osq).size) ?_
      intro wa za Sa
      clear r0 r1 r2 r3 r4 r5 CA S z9'
      by_cases hC : C = 0
      · have HZ := Lib.hid (tabF_zero (show (tabF ar cs sz tb).1 = 0 by rw [HCD.out]; exact hC))
        obtain ⟨rfl, rfl⟩ : C = 0 ∧ D = 0 := by
          have h := HCD.out.symm.trans HZ.out.1
          simpa using h
        obtain ⟨s, hs, hT⟩ := HZ.out.2.2
        subst hs
        have HTT := Lib.hid hT
        have HCO := Lib.hid (loreF_zero HZ.out.2.1)
        have HT0 := Lib.hid (show (tabF ar cs s tb).1 = 0 by rw [HCD.out])
        clear hC hT HCD HZ
        obtain ⟨b14, hb14⟩ : ∃ b, b = wa.heap.size := ⟨_, rfl⟩
        have HB14 := Lib.hid (show b13 + 1 ≤ b14 by omega)
        have Sb := Sa.box hb14.symm #[.int .i64 0, .int .i64 0] 32
        have zb : b14 + 1 ≤ (wa.alloc (.cells #[.int .i64 0, .int .i64 0] 32)).heap.size := by simp [hb14]
        obtain ⟨⟨x0, _⟩, x1, _⟩ := Sa.two 3
        go_upto_region 11 with (fail)
        rw [← hb14]
        refine Sb.genC (z := b14 + 1) zb ?_
        intro wb zb' S
        clear Sb zb Sa za hb14 x0 x1
        obtain ⟨b15, hb15⟩ : ∃ b, b = wb.heap.size := ⟨_, rfl⟩
        have HB15 := Lib.hid (show b14 + 1 ≤ b15 by omega)
        have Sc := S.box hb15.symm #[.bool false, .int .i64 x.head, .slice xk x.kids.length (x.kids.length + xs), .int .i64 x.head, .slice xk x.kids.length (x.kids.length + xs)] 54
        have zc : b15 + 1 ≤ (wb.alloc (.cells #[.bool false, .int .i64 x.head, .slice xk x.kids.length (x.kids.length + xs), .int .i64 x.head, .slice xk x.kids.length (x.kids.length + xs)] 54)).heap.size := by simp [hb15]
        obtain ⟨⟨x0, _⟩, x1, _⟩ := S.two 2
        obtain ⟨⟨y0, _⟩, y1, _⟩ := Sc.two 0
        clear S
        go_wp2_with fail
        rw [← hb15]
        refine Sc.gen (z := b15 + 1) zc ?_
        intro wc zc' S
        clear Sc zc hb15 x0 x1 y0 y1 zb'
        have S : St w wc [.box bx #[.slice ao ar.length ca, .slice co cs.length cc] 29, .box (bx + 1) #[.int .i64 s, .slice to_ tb.length (tb.length + ct)] 41, .box (bx + 2) #[.int .i64 x.head, .slice xk x.kids.length (x.kids.length + xs)] 44, .box b9 #[.int .i64 0, .int .i64 0] 32, .box b11 #[.int .i64 F1, .int .i64 F2] 32, .rowE boolE pb ro B, .box b13 #[.int .i64 G1, .int .i64 G2] 32, .box b14 #[.int .i64 0, .int .i64 0] 32, .box b15 #[.bool false, .int .i64 x.head, .slice xk x.kids.length (x.kids.length + xs), .int .i64 x.head, .slice xk x.kids.length (x.kids.length + xs)] 54] := S
        have HROW := Lib.hid (row_block factE (p := fun b => b < wc.heap.size) (xs := [factX x]) (css := [[.bool false, .int .i64 x.head, .slice xk x.kids.length (x.kids.length + xs), .int .i64 x.head, .slice xk x.kids.length (x.kids.length + xs)]]) (S.block 8) (by omega) rfl rfl (fun i c f h1 h2 => by
          rcases i with _ | i
          · simp at h1 h2
            subst h1 h2
            have h3 := (HX.out.kept S.bel).mono (q := fun b => b < wc.heap.size) (fun b hb => by have := HPX.out b hb; have := S.bel.size; omega)
            exact ⟨xk, xs, xk, xs, rfl, h3, h3⟩
          · simp at h1))
        have H27 := claim27 ar [factX x] (fun b => b < wc.heap.size) q (some ⟨b15, 0, none⟩) ao 0 ca wc (HA.out.kept S.bel) (by have := HN.out.1; omega) HROW.out (by simp) (fun b hb => hb) (fun i t hi => by
          have ht := List.mem_of_getElem? hi
          simp [treesF, factX] at ht
          subst ht; exact HXS.out)
        obtain ⟨E, hE⟩ : ∃ E, codeF ar [factX x] = E := ⟨_, rfl⟩
        rw [hE] at H27
        have HE := Lib.hid hE
        clear hE
        refine (S.quiet H27).mono ?_
        rintro e wd ⟨rfl, zd, Sd⟩
        have Sd : St w wd [.box bx #[.slice ao ar.length ca, .slice co cs.length cc] 29, .box (bx + 1) #[.int .i64 s, .slice to_ tb.length (tb.length + ct)] 41, .box (bx + 2) #[.int .i64 x.head, .slice xk x.kids.length (x.kids.length + xs)] 44, .box b9 #[.int .i64 0, .int .i64 0] 32, .box b11 #[.int .i64 F1, .int .i64 F2] 32, .rowE boolE pb ro B, .box b13 #[.int .i64 G1, .int .i64 G2] 32, .box b14 #[.int .i64 0, .int .i64 0] 32] := Sd.pick [0, 1, 2, 3, 4, 5, 6, 7]
        have zd' : b15 + 1 ≤ wd.heap.size := by omega
        clear S H27 HROW zd zc'
        go_upto_if 78 with (fail)
        go_cut [] from 20 (fun W => ∃ V1 V2 : Int, Hid ((E ≠ 0 ∧ V1 = E ∧ V2 = -2) ∨ (E = 0 ∧ V1 = 0 ∧ V2 = 0)) ∧ b15 + 1 ≤ W.heap.size ∧ St w W [.box bx #[.slice ao ar.length ca, .slice co cs.length cc] 29, .box (bx + 1) #[.int .i64 s, .slice to_ tb.length (tb.length + ct)] 41, .box (bx + 2) #[.int .i64 x.head, .slice xk x.kids.length (x.kids.length + xs)] 44, .box b9 #[.int .i64 0, .int .i64 0] 32, .box b11 #[.int .i64 F1, .int .i64 F2] 32, .rowE boolE pb ro B, .box b13 #[.int .i64 G1, .int .i64 G2] 32, .box b14 #[.int .i64 V1, .int .i64 V2] 32])
        case first =>
          by_cases hE0 : E = 0
          · have hEb : (E != 0) = false := by simp [hE0]
            go_wp2_with fail
            go_meet
            case rel => exact ⟨0, 0, .inr ⟨hE0, rfl, rfl⟩, zd', Sd⟩
          · have hEb : (E != 0) = true := by simp [hE0]
            go_wp2_with fail
            refine (Sd.quiet (fault20 E (-2) wd)).mono ?_
            rintro e we ⟨rfl, ze, Se⟩
            obtain ⟨⟨x0, x0f⟩, x1, x1f⟩ := Se.two 7
            have hl7 := Se.lt 7
            have Sf := Se.set2 7 rfl (.int .i64 E) (.int .i64 (-2)) (by have := HBX.out; have := HB9.out; have := HB11.out; have := HB13.out; have := HB14.out; omega) (by have := HBX.out; have := HB9.out; have := HB11.out; have := HB13.out; have := HB14.out; simp only [offs, offAll, Fct.box, Fct.rowE, and_true]; refine ⟨by omega, by omega, by omega, by omega, by omega, fun h => ?_, by omega⟩; have := HPB.out b14 h; omega)
            have zf : b15 + 1 ≤ ((we.setCell ⟨b14, 0, none⟩ (.int .i64 E)).setCell ⟨b14, 1, none⟩ (.int .i64 (-2))).heap.size := by simp; omega
            clear Se Sd
            go_wp2_with fail
            go_meet
            case rel => exact ⟨E, -2, .inl ⟨hE0, rfl, rfl⟩, zf, Sf⟩
        case rest =>
          obtain ⟨V1, V2, hV12, zg, Sg⟩ := hcut
          clear Sd zd'
          have HV12 := Lib.hid hV12
          have HW1 := Lib.hid (show ∀ k : Nat, E = 0 → k = th.length → (∀ (j : Nat) y, j < k → th[j]? = some y → outS s y = false) → wrongV s E th = (0, 0) from fun k h1 h2 h3 => by
            unfold wrongV
            rw [if_neg (by simpa using h1), if_neg]
            intro ha
            obtain ⟨y, hy1, hy2⟩ := List.any_eq_true.1 ha
            obtain ⟨j, hj⟩ := List.mem_iff_getElem?.1 hy1
            rw [h3 j y (by have := (List.getElem?_eq_some_iff.1 hj).1; omega) hj] at hy2
            exact Bool.noConfusion hy2)
          clear hV12
          go_step
          go_step
          go_cut [] from 16 (fun W => ∃ V1 V2 : Int, Hid (wrongV s E th = (V1, V2)) ∧ b15 + 1 ≤ W.heap.size ∧ St w W [.box bx #[.slice ao ar.length ca, .slice co cs.length cc] 29, .box (bx + 1) #[.int .i64 s, .slice to_ tb.length (tb.length + ct)] 41, .box (bx + 2) #[.int .i64 x.head, .slice xk x.kids.length (x.kids.length + xs)] 44, .box b9 #[.int .i64 0, .int .i64 0] 32, .box b11 #[.int .i64 F1, .int .i64 F2] 32, .rowE boolE pb ro B, .box b13 #[.int .i64 G1, .int .i64 G2] 32, .box b14 #[.int .i64 V1, .int .i64 V2] 32])
          case first =>
            go_wp2_with fail
            go_loopw [16] (fun i wr => ∃ (k : Nat) (V1 V2 : Int), k ≤ th.length ∧ i = .int .i64 k ∧ Hid ((E ≠ 0 ∧ V1 = E ∧ V2 = -2) ∨ (E = 0 ∧ V1 = 0 ∧ V2 = 0 ∧ ∀ (j : Nat) y, j < k → th[j]? = some y → outS s y = false) ∨ (E = 0 ∧ V1 = 3 ∧ V2 = -3 ∧ th.any (outS s) = true)) ∧ b15 + 1 ≤ wr.heap.size ∧ St w wr [.box bx #[.slice ao ar.length ca, .slice co cs.length cc] 29, .box (bx + 1) #[.int .i64 s, .slice to_ tb.length (tb.length + ct)] 41, .box (bx + 2) #[.int .i64 x.head, .slice xk x.kids.length (x.kids.length + xs)] 44, .box b9 #[.int .i64 0, .int .i64 0] 32, .box b11 #[.int .i64 F1, .int .i64 F2] 32, .rowE boolE pb ro B, .box b13 #[.int .i64 G1, .int .i64 G2] 32, .box b14 #[.int .i64 V1, .int .i64 V2] 32]) (fun i _ => th.length - (intOf i).toNat)
            case atStart => exact ⟨0, V1, V2, by omega, rfl, by
              rcases HV12.out with h | h
              · exact .inl h
              · exact .inr (.inl ⟨h.1, h.2.1, h.2.2, fun j y hj => by omega⟩), zg, Sg⟩
            case round =>
              clear Sg HV12 zg V1 V2
              obtain ⟨k, V1, V2, hk, rfl, HK3, zh, Sh⟩ := hrel
              obtain ⟨⟨x0, _⟩, x1, _⟩ := Sh.two 7
              by_cases hlt : k < th.length
              · have hlti : (k : Int) < (th.length : Int) := by omega
                by_cases hV1 : V1 = 0
                · obtain ⟨hE0, hV2, hno⟩ : E = 0 ∧ V2 = 0 ∧ ∀ (j : Nat) y, j < k → th[j]? = some y → outS s y = false := by
                    rcases HK3.out with h | h | h
                    · exact absurd (h.2.1.symm.trans hV1) h.1
                    · exact ⟨h.1, h.2.2.1, h.2.2.2⟩
                    · rw [hV1] at h; exact absurd h.2.1 (by decide)
                  subst hV1 hV2
                  have HNO := Lib.hid hno
                  have HE0 := Lib.hid hE0
                  clear hno hE0 HK3
                  obtain ⟨bt, offt, rfl, _, c0⟩ := (HTH.out.kept Sh.bel).int hlt
                  obtain ⟨X, hX⟩ : ∃ X, X = th[k] := ⟨_, rfl⟩
                  have HXK := Lib.hid (show th[k]? = some X by rw [hX]; exact List.getElem?_eq_getElem hlt)
                  rw [← hX] at c0
                  clear hX
                  obtain ⟨⟨y0, _⟩, _⟩ := Sh.two 1
                  have hw1 : IntKind.i64.wrap ((s : Int) - 1) = (s : Int) - 1 := IntWalk.i64_in _ (by have := HTT.out.2.1; omega)
                  have CA := Lib.hid (fun d os => Calls.regrown_of (in28s X 0 ((s : Int) - 1) (Go.Sort.grow (redrawn wr d) os)))
                  obtain ⟨O, hO⟩ : ∃ O, O = decide (0 ≤ X ∧ X ≤ (s : Int) - 1) := ⟨_, rfl⟩
                  rw [← hO] at CA
                  have HO := Lib.hid hO
                  clear hO
                  have r0 := cell_regrown c0; have r1 := cell_regrown y0
                  go_wp2_with fail
                  clear x0 x1 y0 c0
                  refine wp_region_quiet_below (by kernel_rfl) (by kernel_rfl) ?_
                  repeat (go_big_quiet_step (first | with_reducible exact CA.out _ _))
                  refine wpQuiet_nil ?_
                  intro _ hw'
                  obtain ⟨⟨dq, osq⟩, hw''⟩ := hw'
                  subst hw''
                  refine (Sh.regrown dq osq).genX (z := b15 + 1) (Nat.le_trans zh (below_regrown wr dq osq).size) ?_
                  intro wi zi Si
                  clear r0 r1 CA Sh hw1
                  cases O with
                  | true =>
                    have HNO2 := Lib.hid (show ∀ (j : Nat) y, j < k + 1 → th[j]? = some y → outS s y = false from fun j y hj hy => by
                      rcases Nat.lt_succ_iff_lt_or_eq.1 hj with h | rfl
                      · exact HNO.out j y h hy
                      · rw [HXK.out] at hy
                        obtain rfl := Option.some.inj hy
                        have := of_decide_eq_true HO.out.symm
                        unfold outS
                        rw [decide_eq_false (by omega), decide_eq_false (by omega)]; rfl)
                    go_wp2_with fail
                    go_roundw
                    case rel => exact ⟨k + 1, 0, 0, by omega, by go_num, .inr (.inl ⟨HE0.out, rfl, rfl, HNO2.out⟩), zi, Si⟩
                    case measure => simp [intOf] <;> omega
                  | false =>
                    have HAN := Lib.hid (show th.any (outS s) = true from List.any_eq_true.2 ⟨X, List.mem_of_getElem? HXK.out, by
                      have := of_decide_eq_false HO.out.symm
                      unfold outS
                      rw [Bool.or_eq_true, decide_eq_true_eq, decide_eq_true_eq]; omega⟩)
                    go_wp2_with fail
                    refine (Si.quiet (fault20 3 (-3) wi)).mono ?_
                    rintro e we ⟨rfl, ze, Se⟩
                    obtain ⟨⟨x0, x0f⟩, x1, x1f⟩ := Se.two 7
                    have hl7 := Se.lt 7
                    have Sf := Se.set2 7 rfl (.int .i64 3) (.int .i64 (-3)) (by have := HBX.out; have := HB9.out; have := HB11.out; have := HB13.out; have := HB14.out; omega) (by have := HBX.out; have := HB9.out; have := HB11.out; have := HB13.out; have := HB14.out; simp only [offs, offAll, Fct.box, Fct.rowE, and_true]; refine ⟨by omega, by omega, by omega, by omega, by omega, fun h => ?_, by omega⟩; have := HPB.out b14 h; omega)
                    have zf : b15 + 1 ≤ ((we.setCell ⟨b14, 0, none⟩ (.int .i64 3)).setCell ⟨b14, 1, none⟩ (.int .i64 (-3))).heap.size := by simp; omega
                    clear Se Si
                    go_wp2_with fail
                    go_roundw
                    case rel => exact ⟨k + 1, 3, -3, by omega, by go_num, .inr (.inr ⟨HE0.out, rfl, rfl, HAN.out⟩), zf, Sf⟩
                    case measure => simp [intOf] <;> omega
                · have hVb : (V1 == 0) = false := by simpa using hV1
                  have HWV := Lib.hid (show wrongV s E th = (V1, V2) by
                    rcases HK3.out with h | h | h
                    · unfold wrongV; rw [if_pos h.1, h.2.1, h.2.2]
                    · exact absurd h.2.1 hV1
                    · unfold wrongV; rw [if_neg (by simpa using h.1), if_pos h.2.2.2, h.2.1, h.2.2.1])
                  go_wp2_with fail
                  go_meet
                  case rel => exact ⟨V1, V2, HWV.out, zh, Sh⟩
              · obtain rfl : k = th.length := by omega
                have HWV := Lib.hid (show wrongV s E th = (V1, V2) by
                  rcases HK3.out with h | h | h
                  · unfold wrongV; rw [if_pos h.1, h.2.1, h.2.2]
                  · rw [HW1.out _ h.1 rfl h.2.2.2, h.2.1, h.2.2.1]
                  · unfold wrongV; rw [if_neg (by simpa using h.1), if_pos h.2.2.2, h.2.1, h.2.2.1])
                go_wp2_with fail
                go_meet
                case rel => exact ⟨V1, V2, HWV.out, zh, Sh⟩
          case rest =>
            clear Sg HV12 HW1 zg V1 V2
            obtain ⟨V1, V2, HWV, zh, Sh⟩ := hcut
            have HEV := Lib.hid (show V = (if V1 = 0 then x.ev s tb th else 0) ∧ V1 = F1 ∧ V2 = F2 from by
              have h := HV.out.symm.trans (valueF_good HT0.out)
              rw [HE.out, HWV.out] at h
              simp only [Prod.mk.injEq] at h
              exact ⟨h.1, h.2.1.symm, h.2.2.symm⟩)
            have HHG := Lib.hid (show B = (if (wrongH s cs).1 = 0 then cs.map (trueF s tb) else []) ∧ wrongH s cs = (G1, G2) from by
              have h := HB.out.symm.trans (holdsF_good HT0.out)
              simp only [Prod.mk.injEq] at h
              exact ⟨h.1, h.2.symm⟩)
            obtain ⟨h0, h1, h2⟩ := HEV.out
            clear h0
            subst h1 h2
            clear HV HB HT0
            obtain ⟨⟨x0, _⟩, x1, _⟩ := Sh.two 7
            go_upto_if 104 with (fail)
            go_cut [17] from 20 (fun t17 W => t17 = .int .i64 V ∧ b15 + 1 ≤ W.heap.size ∧ St w W [.box bx #[.slice ao ar.length ca, .slice co cs.length cc] 29, .box (bx + 1) #[.int .i64 s, .slice to_ tb.length (tb.length + ct)] 41, .box (bx + 2) #[.int .i64 x.head, .slice xk x.kids.length (x.kids.length + xs)] 44, .box b9 #[.int .i64 0, .int .i64 0] 32, .box b11 #[.int .i64 V1, .int .i64 V2] 32, .rowE boolE pb ro B, .box b13 #[.int .i64 G1, .int .i64 G2] 32, .box b14 #[.int .i64 V1, .int .i64 V2] 32])
            case first =>
              by_cases hV1 : V1 = 0
              · have hVb : (V1 == 0) = true := by simp [hV1]
                have HWZ := Lib.hid (wrongV_zero (show (wrongV s E th).1 = 0 by rw [HWV.out]; exact hV1))
                have HVV := Lib.hid (show V = x.ev s tb th by rw [HEV.out.1, if_pos hV1])
                have HSG := Lib.hid (codeF_one.1 (show codeF ar [factX x] = 0 by rw [HE.out]; exact HWZ.out.1))
                obtain ⟨⟨y0, _⟩, y1, _⟩ := Sh.two 1
                obtain ⟨⟨y2, _⟩, y3, _⟩ := Sh.two 2
                clear x0 x1
                go_wp2_with fail
                refine (Sh.quiet (thing29 ar s tb th HTT.out HWZ.out.2 HN.out.2.2 x HSG.out.2 r u _ to_ tho ct cth _ (HT.out.kept Sh.bel) (HTH.out.kept Sh.bel) (HX.out.kept Sh.bel).at)).mono ?_
                rintro e we ⟨rfl, ze, Se⟩
                have zf : b15 + 1 ≤ we.heap.size := by omega
                rw [← HVV.out]
                clear y0 y1 y2 y3 Sh
                go_wp2_with fail
                go_meet
                case rel => exact ⟨rfl, zf, Se⟩
              · have hVb : (V1 == 0) = false := by simp [hV1]
                have HVV := Lib.hid (show V = 0 by rw [HEV.out.1, if_neg hV1])
                clear x0 x1
                go_wp2_with fail
                go_meet
                case rel => exact ⟨by rw [HVV.out], zh, Sh⟩
            case rest =>
              clear Sh zh x0 x1
              obtain ⟨rfl, zi, Si⟩ := hcut
              clear HEV HWV
              obtain ⟨⟨x0, _⟩, x1, _⟩ := Si.two 4
              obtain ⟨⟨y0, _⟩, y1, _⟩ := Si.two 7
              go_upto_if 116 with (fail)
              go_cut [] from 20 (fun W => b15 + 1 ≤ W.heap.size ∧ St w W [.box bx #[.slice ao ar.length ca, .slice co cs.length cc] 29, .box (bx + 1) #[.int .i64 s, .slice to_ tb.length (tb.length + ct)] 41, .box (bx + 2) #[.int .i64 x.head, .slice xk x.kids.length (x.kids.length + xs)] 44, .box b9 #[.int .i64 0, .int .i64 0] 32, .box b11 #[.int .i64 V1, .int .i64 V2] 32, .rowE boolE pb ro B, .box b13 #[.int .i64 G1, .int .i64 G2] 32])
              case first =>
                have Sj := Si.pick [0, 1, 2, 3, 4, 5, 6]
                clear x0 x1 y0 y1 Si
                go_wp2_with fail
                go_meet
                case rel => exact ⟨zi, Sj⟩
              case rest =>
                clear x0 x1 y0 y1 Si zi
                obtain ⟨zj, Sj⟩ := hcut
                go_step
                go_step
                go_cut [] from 18 (fun W => ∃ C D : Int, Hid (wrongH s cs = (C, D)) ∧ b15 + 1 ≤ W.heap.size ∧ St w W [.box bx #[.slice ao ar.length ca, .slice co cs.length cc] 29, .box (bx + 1) #[.int .i64 s, .slice to_ tb.length (tb.length + ct)] 41, .box (bx + 2) #[.int .i64 x.head, .slice xk x.kids.length (x.kids.length + xs)] 44, .box b9 #[.int .i64 C, .int .i64 D] 32, .box b11 #[.int .i64 V1, .int .i64 V2] 32, .rowE boolE pb ro B, .box b13 #[.int .i64 G1, .int .i64 G2] 32])
                case first =>
                  go_wp2_with fail
                  go_loopw [18] (fun i wr => ∃ (k : Nat) (C D : Int), k ≤ cs.length ∧ i = .int .i64 k ∧ Hid ((C = 0 ∧ D = 0 ∧ ∀ (j : Nat) y, j < k → cs[j]? = some y → wideB s y = false) ∨ (C = 10 ∧ wrongH s cs = (10, D))) ∧ b15 + 1 ≤ wr.heap.size ∧ St w wr [.box bx #[.slice ao ar.length ca, .slice co cs.length cc] 29, .box (bx + 1) #[.int .i64 s, .slice to_ tb.length (tb.length + ct)] 41, .box (bx + 2) #[.int .i64 x.head, .slice xk x.kids.length (x.kids.length + xs)] 44, .box b9 #[.int .i64 C, .int .i64 D] 32, .box b11 #[.int .i64 V1, .int .i64 V2] 32, .rowE boolE pb ro B, .box b13 #[.int .i64 G1, .int .i64 G2] 32]) (fun i _ => cs.length - (intOf i).toNat)
                  case atStart => exact ⟨0, 0, 0, by omega, rfl, .inl ⟨rfl, rfl, fun j y hj => by omega⟩, zj, Sj⟩
                  case round =>
                    clear Sj zj
                    obtain ⟨k, C, D, hk, rfl, HK3, zh, Sh⟩ := hrel
                    obtain ⟨⟨x0, _⟩, x1, _⟩ := Sh.two 3
                    obtain ⟨_, x2, _⟩ := Sh.two 0
                    by_cases hlt : k < cs.length
                    · have hlti : (k : Int) < (cs.length : Int) := by omega
                      by_cases hC : C = 0
                      · obtain ⟨hD, hno⟩ : D = 0 ∧ ∀ (j : Nat) y, j < k → cs[j]? = some y → wideB s y = false := by
                          rcases HK3.out with h | h
                          · exact h.2
                          · rw [hC] at h; exact absurd h.1 (by decide)
                        subst hC hD
                        have HNO := Lib.hid hno
                        clear hno HK3
                        obtain ⟨b, off, kc, sc, rfl, hpb, c0, h1, h2⟩ := (HC.out.kept Sh.bel).claim hlt
                        obtain ⟨f, hf⟩ : ∃ f, f = cs[k] := ⟨_, rfl⟩
                        have HFK := Lib.hid (show cs[k]? = some f by rw [hf]; exact List.getElem?_eq_getElem hlt)
                        rw [← hf] at c0 h1 h2
                        have HROW := Lib.hid h1
                        have HCF := Lib.hid (HCO.out.2.2.2.2 f (List.mem_of_getElem? HFK.out))
                        clear hf h1 h2
                        have hn8 : varsC f ≤ 8 := code_vars HCF.out
                        obtain ⟨PW, hPW⟩ : ∃ PW : Nat, s ^ varsC f = PW := ⟨_, rfl⟩
                        have HPW := Lib.hid (show wideB s f = decide (4096 < PW) by rw [wide_powC HTT.out.1, hPW])
                        have hsz := Sh.bel.size
                        have CA := Lib.hid (fun d os => Calls.regrown_of (claimMost31 f p kc sc (Go.Sort.grow (redrawn wr d) os) (HROW.out.kept (below_regrown wr d os)) (HF.out k f HFK.out) (fun b hb => Nat.lt_of_lt_of_le (HP.out b hb) (Nat.le_trans hsz (below_regrown wr d os).size)) (code_low HCF.out)))
                        have CB := Lib.hid (fun d os => Calls.regrown_of (power30X hPW (Go.Sort.grow (redrawn wr d) os) HTT.out.2.1 (Nat.le_trans hn8 (by decide))))
                        obtain ⟨⟨y0, _⟩, _⟩ := Sh.two 1
                        clear hPW hn8 hsz
                        have r0 := cell_regrown c0; have r1 := cell_regrown y0; have r2 := cell_regrown x2
                        go_wp2_with fail
                        clear x0 x1 x2 y0 c0
                        refine wp_region_quiet_below (by kernel_rfl) (by kernel_rfl) ?_
                        repeat (go_big_quiet_step (first | with_reducible exact CA.out _ _ | with_reducible exact CB.out _ _))
                        refine wpQuiet_nil ?_
                        intro _ hw'
                        obtain ⟨⟨dq, osq⟩, hw''⟩ := hw'
                        subst hw''
                        refine (Sh.regrown dq osq).genX (z := b15 + 1) (Nat.le_trans zh (below_regrown wr dq osq).size) ?_
                        intro wi zi Si
                        clear r0 r1 r2 CA CB Sh
                        by_cases hw : 4096 < PW
                        · have hwi : (4096 : Int) < (PW : Int) := by omega
                          have HWH := Lib.hid (show wrongH s cs = (10, (k : Int)) by
                            have h1 : idxP (wideB s) cs = k := idxP_hit hlt HNO.out (by
                              have h2 : cs[k] = f := by have h3 := HFK.out; rw [List.getElem?_eq_getElem hlt] at h3; exact Option.some.inj h3
                              rw [h2, HPW.out, decide_eq_true hw])
                            unfold wrongH
                            rw [h1, if_pos (by omega)])
                          go_wp2_with fail
                          refine (Si.quiet (fault20 10 k wi)).mono ?_
                          rintro e we ⟨rfl, ze, Se⟩
                          obtain ⟨⟨x0, x0f⟩, x1, x1f⟩ := Se.two 3
                          have hl3 := Se.lt 3
                          have Sf := Se.set2 3 rfl (.int .i64 10) (.int .i64 k) (by have := HBX.out; have := HB9.out; omega) (by have := HBX.out; have := HB9.out; have := HB11.out; have := HB13.out; have := HB14.out; simp only [offs, offAll, Fct.box, Fct.rowE, and_true]; refine ⟨by omega, by omega, by omega, by omega, fun h => ?_, by omega⟩; have := HPB.out b9 h; omega)
                          have zf : b15 + 1 ≤ ((we.setCell ⟨b9, 0, none⟩ (.int .i64 10)).setCell ⟨b9, 1, none⟩ (.int .i64 k)).heap.size := by simp; omega
                          clear Se Si
                          go_wp2_with fail
                          go_roundw
                          case rel => exact ⟨k + 1, 10, k, by omega, by go_num, .inr ⟨rfl, HWH.out⟩, zf, Sf⟩
                          case measure => simp [intOf] <;> omega
                        · have hwi : ¬ (4096 : Int) < (PW : Int) := by omega
                          have HNO2 := Lib.hid (show ∀ (j : Nat) y, j < k + 1 → cs[j]? = some y → wideB s y = false from fun j y hj hy => by
                            rcases Nat.lt_succ_iff_lt_or_eq.1 hj with h | rfl
                            · exact HNO.out j y h hy
                            · rw [HFK.out] at hy
                              obtain rfl := Option.some.inj hy
                              rw [HPW.out, decide_eq_false hw])
                          go_wp2_with fail
                          go_roundw
                          case rel => exact ⟨k + 1, 0, 0, by omega, by go_num, .inl ⟨rfl, rfl, HNO2.out⟩, zi, Si⟩
                          case measure => simp [intOf] <;> omega
                      · have hCb : (C == 0) = false := by simpa using hC
                        have HWH := Lib.hid (show wrongH s cs = (C, D) by
                          rcases HK3.out with h | h
                          · exact absurd h.1 hC
                          · rw [h.2, h.1])
                        go_wp2_with fail
                        go_meet
                        case rel => exact ⟨C, D, HWH.out, zh, Sh⟩
                    · obtain rfl : k = cs.length := by omega
                      have HWH := Lib.hid (show wrongH s cs = (C, D) by
                        rcases HK3.out with h | h
                        · have h1 : idxP (wideB s) cs = -1 := idxP_none h.2.2
                          unfold wrongH; rw [h1, if_neg (by omega), h.1, h.2.1]
                        · rw [h.2, h.1])
                      go_wp2_with fail
                      go_meet
                      case rel => exact ⟨C, D, HWH.out, zh, Sh⟩
                case rest =>
                  clear Sj zj
                  obtain ⟨C, D, HWH, zh, Sh⟩ := hcut
                  obtain ⟨h1, h2⟩ : C = G1 ∧ D = G2 := by
                    have h := HWH.out.symm.trans HHG.out.2
                    simpa using h
                  subst h1 h2
                  obtain ⟨⟨x0, _⟩, x1, _⟩ := Sh.two 3
                  obtain ⟨⟨y0, _⟩, y1, _⟩ := Sh.two 6
                  by_cases hC : C = 0
                  · have hCb : (C != 0) = false := by simp [hC]
                    have HBM := Lib.hid (show B = cs.map (trueF s tb) by have h := HHG.out.1; rw [HWH.out, if_pos hC] at h; exact h)
                    have HNW := Lib.hid (show ∀ c ∈ cs, wideB s c = false from fun c hc => by
                      cases hw : wideB s c with
                      | false => rfl
                      | true =>
                        have h1 : 0 ≤ idxP (wideB s) cs := idxP_any.2 (List.any_eq_true.2 ⟨c, hc, hw⟩)
                        have h2 := HWH.out
                        unfold wrongH at h2
                        rw [if_pos h1] at h2
                        have := (Prod.mk.inj h2).1
                        omega)
                    have hBl : B.length = cs.length := by rw [HBM.out, List.length_map]
                    have hbne : ((B.length : Int) != (cs.length : Int)) = false := by rw [hBl]; simp
                    obtain ⟨_, x2, _⟩ := Sh.two 0
                    clear HHG HWH
                    go_wp2_with fail
                    clear x0 x1 y0 y1 x2
                    go_loopw [19] (fun i wr => ∃ k : Nat, k ≤ B.length ∧ i = .int .i64 k ∧ b15 + 1 ≤ wr.heap.size ∧ St w wr [.box bx #[.slice ao ar.length ca, .slice co cs.length cc] 29, .box (bx + 1) #[.int .i64 s, .slice to_ tb.length (tb.length + ct)] 41, .box (bx + 2) #[.int .i64 x.head, .slice xk x.kids.length (x.kids.length + xs)] 44, .box b9 #[.int .i64 C, .int .i64 D] 32, .box b11 #[.int .i64 V1, .int .i64 V2] 32, .rowE boolE pb ro B, .box b13 #[.int .i64 C, .int .i64 D] 32]) (fun i _ => B.length - (intOf i).toNat)
                    case atStart => exact ⟨0, by omega, rfl, zh, Sh⟩
                    case round =>
                      clear Sh zh
                      obtain ⟨k, hk, rfl, zh, Sh⟩ := hrel
                      by_cases hlt : k < B.length
                      · have hlti : (k : Int) < (B.length : Int) := by omega
                        have hltc : k < cs.length := by omega
                        have hltci : (k : Int) < (cs.length : Int) := by omega
                        obtain ⟨b, off, kc, sc, rfl, hpb, c0, h1, h2⟩ := (HC.out.kept Sh.bel).claim hltc
                        obtain ⟨bb, boff, rfl, _, d0⟩ := (Sh.rowE boolE 5).bool hlt
                        obtain ⟨f, hf⟩ : ∃ f, f = cs[k] := ⟨_, rfl⟩
                        have HFK := Lib.hid (show cs[k]? = some f by rw [hf]; exact List.getElem?_eq_getElem hltc)
                        rw [← hf] at c0 h1 h2
                        have HROW := Lib.hid h1
                        have hfm : f ∈ cs := List.mem_of_getElem? HFK.out
                        have HCF := Lib.hid (HCO.out.2.2.2.2 f hfm)
                        have HFW := Lib.hid (HNW.out f hfm)
                        obtain ⟨X, hX⟩ : ∃ X, X = B[k] := ⟨_, rfl⟩
                        rw [← hX] at d0
                        have HXT := Lib.hid (show trueF s tb f = X by
                          have h3 : B[k]? = some X := by rw [hX]; exact List.getElem?_eq_getElem hlt
                          rw [HBM.out, List.getElem?_map, HFK.out] at h3
                          exact Option.some.inj h3)
                        clear hf h1 h2 hX hfm
                        have hn8 : varsC f ≤ 8 := code_vars HCF.out
                        have HAB := Lib.hid (show allF s tb f (varsC f) [] = X by rw [allF_true HTT.out.1 HFW.out, HXT.out])
                        have hsz := Sh.bel.size
                        have CA := Lib.hid (fun d os => Calls.regrown_of (claimMost31 f p kc sc (Go.Sort.grow (redrawn wr d) os) (HROW.out.kept (below_regrown wr d os)) (HF.out k f HFK.out) (fun b hb => Nat.lt_of_lt_of_le (HP.out b hb) (Nat.le_trans hsz (below_regrown wr d os).size)) (code_low HCF.out)))
                        have HTR := Lib.hid (HT.out.kept Sh.bel)
                        have CB := Lib.hid (fun d os => Calls.regrown_of (all32X HAB.out ar HTT.out (fun t ht => ((codeF_zero.1 HCF.out).2 t ht).2) (HF.out k f HFK.out) (Nat.le_trans hn8 (by decide)) p r to_ kc ct sc (Go.Sort.grow (redrawn wr d) os) (HTR.out.kept (below_regrown wr d os)) (HROW.out.kept (below_regrown wr d os))))
                        obtain ⟨⟨y0, _⟩, y1, _⟩ := Sh.two 1
                        obtain ⟨_, x2, _⟩ := Sh.two 0
                        clear hn8 hsz
                        have r0 := cell_regrown c0; have r1 := cell_regrown y0; have r2 := cell_regrown y1; have r3 := cell_regrown x2; have r4 := cell_regrown d0
                        go_wp2_with fail
                        clear x2 y0 y1 c0 d0
                        refine wp_region_quiet_below (by kernel_rfl) (by kernel_rfl) ?_
                        repeat (go_big_quiet_step (first | with_reducible exact CA.out _ _ | with_reducible exact CB.out _ _))
                        refine wpQuiet_nil ?_
                        intro _ hw'
                        obtain ⟨⟨dq, osq⟩, hw''⟩ := hw'
                        subst hw''
                        refine (Sh.regrown dq osq).genX (z := b15 + 1) (Nat.le_trans zh (below_regrown wr dq osq).size) ?_
                        intro wi zi Si
                        clear r0 r1 r2 r3 r4 CA CB Sh
                        have hXb : (X != X) = false := by simp
                        go_wp2_with fail
                        go_roundw
                        case rel => exact ⟨k + 1, by omega, by go_num, zi, Si⟩
                        case measure => simp [intOf] <;> omega
                      · obtain rfl : k = B.length := by omega
                        have SE := Lib.hid Sh.bel
                        clear Sh
                        go_wp2_with fail
                        go_ret
                        exact ⟨rfl, SE.out⟩
                  · have hCb : (C != 0) = true := by simp [hC]
                    obtain rfl : B = [] := by have h := HHG.out.1; rw [HWH.out, if_neg hC] at h; exact h
                    have SE := Lib.hid Sh.bel
                    clear HHG HWH Sh
                    go_wp2_with fail
                    go_ret
                    exact ⟨rfl, SE.out⟩
      · have hCb : (C != 0) = true := by simp [hC]
        have hbad : (tabF ar cs sz tb).1 ≠ 0 := by rw [HCD.out]; exact hC
        obtain ⟨h1, h2, h3⟩ : 0 = V ∧ C = F1 ∧ D = F2 := by
          have h := HV.out.symm.trans (valueF_bad hbad)
          rw [HCD.out] at h
          simp only [Prod.mk.injEq] at h
          exact ⟨h.1.symm, h.2.1.symm, h.2.2.symm⟩
        obtain ⟨h4, h5, h6⟩ : [] = B ∧ C = G1 ∧ D = G2 := by
          have h := HB.out.symm.trans (holdsF_bad hbad)
          rw [HCD.out] at h
          simp only [Prod.mk.injEq] at h
          exact ⟨h.1.symm, h.2.1.symm, h.2.2.symm⟩
        subst h1 h2 h3 h4 h5 h6
        clear HV HB hbad HCD
        obtain ⟨⟨x0, _⟩, x1, _⟩ := Sa.two 3
        obtain ⟨⟨y0, _⟩, y1, _⟩ := Sa.two 4
        obtain ⟨⟨u0, _⟩, u1, _⟩ := Sa.two 6
        have SE := Lib.hid Sa.bel
        clear Sa
        go_wp2_with fail
        go_ret
        exact ⟨rfl, SE.out⟩
end Go.Proofs.Yteekoclfpehnpaa
