/-
  The law FindSays: for any lore, size and fuel it answers true.
-/
import Derived.Test.YteekoclfpehnpaaProg
import Derived.Test.YteekoclfpehnpaaX10
import Derived.Test.YteekoclfpehnpaaXf
import Derived.Test.YteekoclfpehnpaaE4
import Derived.Test.YteekoclfpehnpaaZ3
import Derived.Test.YteekoclfpehnpaaZ4
import Derived.RegionTactic
import Derived.BigQuiet
import Derived.Deep.Cut
namespace Go.Proofs.Yteekoclfpehnpaa
open Go.RowKit Go.Shelf
set_option linter.unusedVariables false
set_option maxHeartbeats 400000

theorem vastC_smallF {c : List Fc} (h : vastC c = false) : (treesF c).length ≤ 40 ∧ ∀ (i : Nat) t, (treesF c)[i]? = some t → t.size ≤ 200 := by
  unfold vastC at h
  rw [Bool.or_eq_false_iff] at h
  refine ⟨by have := of_decide_eq_false h.1; omega, fun i t ht => ?_⟩
  have h2 := (List.any_eq_false.1 h.2) t (List.mem_of_getElem? ht)
  unfold bigT at h2
  have h3 := of_decide_eq_false (by simpa using h2 : decide ((200 : Int) < t.size) = false)
  omega
theorem vastL_smallF {na : Nat} {cs : List (List Fc)} (h : vastL na cs = false) : na ≤ 40 ∧ cs.length ≤ 80 ∧ (∀ (i : Nat) c, cs[i]? = some c → c.length ≤ 40) ∧ ∀ (i : Nat) c, cs[i]? = some c → ∀ (j : Nat) t, (treesF c)[j]? = some t → t.size ≤ 200 := by
  unfold vastL at h
  rw [Bool.or_eq_false_iff, Bool.or_eq_false_iff] at h
  have h1 := of_decide_eq_false h.1.1
  have h2 := of_decide_eq_false h.1.2
  have h3 : ∀ (i : Nat) c, cs[i]? = some c → vastC c = false := fun i c hc => by
    have := (List.any_eq_false.1 h.2) c (List.mem_of_getElem? hc)
    simpa using this
  refine ⟨by omega, by omega, fun i c hc => ?_, fun i c hc j t ht => (vastC_smallF (h3 i c hc)).2 j t ht⟩
  have h4 := (vastC_smallF (h3 i c hc)).1
  rw [treesF_length] at h4
  omega
set_option maxRecDepth 100000 in
set_option maxHeartbeats 4000000 in
theorem vastLoreF (na : Nat) (cs : List (List Fc)) (p : Nat → Prop) (aa co : Option Addr) (ca cc : Nat) (w : World) (h : claimE.Row p w co cs) (hp : ∀ b, p b → b < w.heap.size) (hna : na ≤ 2000000) (hn : cs.length ≤ 1000000)
    (hf : ∀ (i : Nat) c, cs[i]? = some c → c.length ≤ 1000000) (hs : ∀ (i : Nat) c, cs[i]? = some c → ∀ (j : Nat) t, (treesF c)[j]? = some t → t.size ≤ 2000000) :
    Calls Try.prog 15 #[.agg #[.slice aa na ca, .slice co cs.length cc]] w fun e w' => e = .returned (.bool (vastL na cs)) ∧ Below w.heap.size w w' := by
  by_cases h1 : na ≤ 1000000
  · exact vastLore15 na cs p aa co ca cc w h hp h1 hn hf hs
  obtain ⟨bx, hbx⟩ : ∃ b, b = w.heap.size := ⟨_, rfl⟩
  have S := (St.start w).box hbx.symm #[.slice aa na ca, .slice co cs.length cc] 29
  have HBX := Lib.hid hbx
  clear h hp hs hf
  have HV := Lib.hid (show vastL na cs = true by unfold vastL; rw [decide_eq_true (show 40 < na by omega)]; simp)
  have SE := Lib.hid S.bel
  have h4i : (40 : Int) < (na : Int) := by omega
  by_cases h8 : 80 < cs.length
  · have h8i : (80 : Int) < (cs.length : Int) := by omega
    clear S h8 h1 hna
    go_enter Try.func15, Try.ntmps15
    go_wp2_with fail
    go_ret
    exact ⟨ret_bool HV.out.symm, SE.out⟩
  · have h8i : ¬ (80 : Int) < (cs.length : Int) := by omega
    clear S h8 h1 hna
    go_enter Try.func15, Try.ntmps15
    go_wp2_with fail
    go_ret
    exact ⟨ret_bool HV.out.symm, SE.out⟩

theorem St.findd {P : Program} {n : Nat} {a : Array Value} {w0 w : World} {l : List Fct} (S : St w0 w l) {ar : List Int} {cs : List (List Fc)} {size fuel : Int} (h : Calls P n a w (FindP ar cs size fuel w)) :
    Calls P n a w fun e w' => ∃ (st sz : Int) (to_ : Option Addr) (T : List (List Int)) (ct : Nat) (c d : Int), e = .returned (.tuple #[.int .i64 st, .agg #[.int .i64 sz, .slice to_ T.length (T.length + ct)], .agg #[.int .i64 c, .int .i64 d]]) ∧ Hid ((c, d) = findW ar cs size fuel) ∧
      Hid ((c ≠ 0 ∧ st = 0 ∧ sz = 0 ∧ T = []) ∨ (c = 0 ∧ ∃ (s f f' : Nat) (T' : List (List Int)), size = s ∧ fuel = f ∧ 1 ≤ s ∧ s ≤ 4 ∧ f ≤ 2000 ∧ AtPost s ar cs (cellTot s ar) [] f st f' T' ∧ ((st = 1 ∧ sz = s ∧ T = T') ∨ (st ≠ 1 ∧ sz = 0 ∧ T = [])))) ∧ w.heap.size ≤ w'.heap.size ∧
      St w0 w' (fsnoc l (.rowE intsE (fun b => w.heap.size ≤ b ∧ b < w'.heap.size) to_ T)) :=
  h.mono fun e w' ⟨st, sz, to_, len, cap, W, h1, h2, h3, h4⟩ => by
    rcases h4 with ⟨a1, a2, a3, a4, a5, a6⟩ | ⟨a1, s, f, f', T', b1, b2, b3, b4, b5, b6, b7⟩
    · subst a4 a5 a6
      exact ⟨st, sz, none, [], 0, W.1, W.2, h1, h2, .inl ⟨a1, a2, a3, rfl⟩, h3.size, (S.step h3).add (.rowE intsE _ none []) Elt.Row.nil⟩
    · rcases b7 with ⟨c1, c2, c3, ⟨sp, c4⟩, c5⟩ | ⟨c1, c2, c3, c4, c5⟩
      · subst c3 c4
        exact ⟨st, sz, to_, T', sp, W.1, W.2, h1, h2, .inr ⟨a1, s, f, f', T', b1, b2, b3, b4, b5, b6, .inl ⟨c1, c2, rfl⟩⟩, h3.size, (S.step h3).add (.rowE intsE _ to_ T') (c5.mono (fun b hb hl => ⟨hb, hl⟩))⟩
      · subst c3 c4 c5
        exact ⟨st, sz, none, [], 0, W.1, W.2, h1, h2, .inr ⟨a1, s, f, f', T', b1, b2, b3, b4, b5, b6, .inr ⟨c1, c2, rfl⟩⟩, h3.size, (S.step h3).add (.rowE intsE _ none []) Elt.Row.nil⟩
theorem firstP_of {α : Type} {f : α → Int} : ∀ {l : List α} {i : Int}, (∀ x ∈ l, f x = 0) → firstP f l i = (0, 0)
  | [], i, _ => by rw [firstP]
  | x :: r, i, h => by rw [firstP, if_neg (by simpa using h x (List.mem_cons_self ..)), firstP_of (fun y hy => h y (List.mem_cons_of_mem _ hy))]
theorem tabF_good {ar : List Int} {cs : List (List Fc)} {s : Nat} {T : List (List Int)} (hl : (loreF ar cs).1 = 0) (h : TabOK ar s T) : tabF ar cs s T = (0, 0) := by
  have h1 := h.1
  have h4 := h.2.1
  unfold tabF
  rw [if_neg (by simpa using hl), if_neg (by omega), if_neg (by rw [h.2.2.1]; simp)]
  refine firstP_of fun x hx => ?_
  obtain ⟨i, hi⟩ := List.mem_iff_getElem?.1 hx
  rw [List.getElem?_zip_eq_some] at hi
  obtain ⟨a1, a2, a3, a4⟩ := h.2.2.2 i x.1 x.2 hi.1 hi.2
  unfold badTb
  have e1 : ((s : Int)).toNat = s := rfl
  rw [e1, powN_small h1 h4 (by omega), if_neg (by rw [a3]; simp), if_neg]
  intro hb
  obtain ⟨y, hy1, hy2⟩ := List.any_eq_true.1 hb
  have := a4 y hy1
  unfold outS at hy2
  rw [Bool.or_eq_true, decide_eq_true_eq, decide_eq_true_eq] at hy2
  omega
/-- what is wrong ahead of the claims' widths -/
noncomputable def rangeW (ar : List Int) (cs : List (List Fc)) (size fuel : Int) : Int × Int := if (loreF ar cs).1 ≠ 0 then loreF ar cs else if size < 1 ∨ 4 < size ∨ fuel < 0 ∨ 2000 < fuel then (3, -1) else (0, 0)
theorem rangeW_zero {ar : List Int} {cs : List (List Fc)} {size fuel : Int} (h : (rangeW ar cs size fuel).1 = 0) : (loreF ar cs).1 = 0 ∧ 1 ≤ size ∧ size ≤ 4 ∧ 0 ≤ fuel ∧ fuel ≤ 2000 ∧ findW ar cs size fuel = wrongW size.toNat cs := by
  unfold rangeW at h
  by_cases h1 : (loreF ar cs).1 ≠ 0
  · rw [if_pos h1] at h; exact absurd h h1
  · rw [if_neg h1] at h
    by_cases h2 : size < 1 ∨ 4 < size ∨ fuel < 0 ∨ 2000 < fuel
    · rw [if_pos h2] at h; cases h
    · refine ⟨by simpa using h1, by omega, by omega, by omega, by omega, ?_⟩
      unfold findW; rw [if_neg h1, if_neg h2]
theorem rangeW_bad {ar : List Int} {cs : List (List Fc)} {size fuel : Int} (h : (rangeW ar cs size fuel).1 ≠ 0) : findW ar cs size fuel = rangeW ar cs size fuel := by
  unfold rangeW at h ⊢
  unfold findW
  by_cases h1 : (loreF ar cs).1 ≠ 0
  · rw [if_pos h1, if_pos h1]
  · rw [if_neg h1] at h ⊢
    rw [if_neg h1]
    by_cases h2 : size < 1 ∨ 4 < size ∨ fuel < 0 ∨ 2000 < fuel
    · rw [if_pos h2, if_pos h2]
    · rw [if_neg h2] at h; exact absurd rfl h
theorem rangeW_zero2 {ar : List Int} {cs : List (List Fc)} {size fuel : Int} (h : (rangeW ar cs size fuel).1 = 0) : rangeW ar cs size fuel = (0, 0) := by
  have h1 := rangeW_zero h
  unfold rangeW
  rw [if_neg (by simpa using h1.1), if_neg (by omega)]
theorem findW_zero {ar : List Int} {cs : List (List Fc)} {size fuel : Int} (h : (findW ar cs size fuel).1 = 0) : (loreF ar cs).1 = 0 ∧ findW ar cs size fuel = (0, 0) := by
  unfold findW at h ⊢
  by_cases h1 : (loreF ar cs).1 ≠ 0
  · rw [if_pos h1] at h; exact absurd h h1
  · rw [if_neg h1] at h ⊢
    refine ⟨by simpa using h1, ?_⟩
    by_cases h2 : size < 1 ∨ 4 < size ∨ fuel < 0 ∨ 2000 < fuel
    · rw [if_pos h2] at h; cases h
    · rw [if_neg h2] at h ⊢
      unfold wrongW at h ⊢
      by_cases h3 : 0 ≤ idxP (wideB size.toNat) cs
      · rw [if_pos h3] at h; cases h
      · rw [if_neg h3]
theorem tabs_small {s : Nat} {ar : List Int} (h : tabsN s ar ≤ 3000) : s ^ cellTot s ar ≤ 100000 := by
  unfold tabsN at h
  split at h <;> omega
theorem ints56X (a : List Int) (p q : Nat → Prop) (ao bo : Option Addr) (ca cb : Nat) (w : World) (ha : intE.Row p w ao a) (hb : intE.Row q w bo a) (hla : a.length ≤ 1000000000) :
    Calls Try.prog 56 #[.slice ao a.length ca, .slice bo a.length cb] w fun e w' => e = .returned (.bool true) ∧ Below w.heap.size w w' := by
  have h := ints56 a a p q ao bo ca cb w ha hb hla hla
  rw [decide_eq_true rfl] at h
  exact h
/-- what the search must answer -/
def FindOut (ar : List Int) (cs : List (List Fc)) (size fuel : Int) (st sz : Int) (T : List (List Int)) : Prop :=
  ∃ s : Nat, size = s ∧ 1 ≤ s ∧ s ≤ 4 ∧ ((st = 1 ∧ sz = s ∧ TabOK ar s T ∧ modelB s T cs = true ∧ (s ^ cellTot s ar ≤ 100000 → ∃ k : Nat, k < s ^ cellTot s ar ∧ foundF s ar cs = k ∧ T = (numTb s ar k).1)) ∨
    (st = 2 ∧ sz = 0 ∧ T = [] ∧ (s ^ cellTot s ar ≤ 100000 → foundF s ar cs = -1)) ∨ (st = 3 ∧ sz = 0 ∧ T = [] ∧ (fuel < 2000 ∨ 1000 < tabsN s ar)))
theorem findOut_of {ar : List Int} {cs : List (List Fc)} {size fuel : Int} {st sz : Int} {T : List (List Int)} (hl : (loreF ar cs).1 = 0) (hw : findW ar cs size fuel = (0, 0))
    (h : ∃ (s f f' : Nat) (T' : List (List Int)), size = s ∧ fuel = f ∧ 1 ≤ s ∧ s ≤ 4 ∧ f ≤ 2000 ∧ AtPost s ar cs (cellTot s ar) [] f st f' T' ∧ ((st = 1 ∧ sz = s ∧ T = T') ∨ (st ≠ 1 ∧ sz = 0 ∧ T = []))) : FindOut ar cs size fuel st sz T := by
  obtain ⟨s, f, f', T', rfl, rfl, h1, h4, hf, hp, hc⟩ := h
  have hL := loreF_zero hl
  have hW : ∀ c ∈ cs, wideB s c = false := fun c hc => by
    have h2 : findW ar cs s f = wrongW s cs := by unfold findW; rw [if_neg (by simpa using hl), if_neg (by omega)]; rfl
    rw [h2] at hw
    unfold wrongW at hw
    cases hb : wideB s c with
    | false => rfl
    | true =>
      have h3 : 0 ≤ idxP (wideB s) cs := idxP_any.2 (List.any_eq_true.2 ⟨c, hc, hb⟩)
      rw [if_pos h3] at hw
      have := (Prod.mk.inj hw).1
      omega
  refine ⟨s, rfl, h1, h4, ?_⟩
  rcases find_spec h1 h4 hL.2.2.2.1 hL.2.1 hW hp with ⟨a1, k, a2, a3, a4, a5⟩ | ⟨a1, a2⟩ | ⟨a1, a2⟩
  · rcases hc with ⟨_, c2, rfl⟩ | ⟨c1, _⟩
    · exact .inl ⟨a1, c2, hp.ok, a4, fun ht => ⟨k, a2, found_hit a2 ht (by rw [← a3]; exact a4) a5, a3⟩⟩
    · exact absurd a1 c1
  · rcases hc with ⟨c1, _⟩ | ⟨_, c2, c3⟩
    · omega
    · exact .inr (.inl ⟨a1, c2, c3, fun ht => found_none ht a2⟩)
  · rcases hc with ⟨c1, _⟩ | ⟨_, c2, c3⟩
    · omega
    · exact .inr (.inr ⟨a1, c2, c3, by omega⟩)
theorem in28F (n lo hi : Int) (w : World) : Calls Try.prog 28 #[.int .i64 n, .int .i64 lo, .int .i64 hi] w fun e w' => e = .returned (.bool (decide (lo ≤ n ∧ n ≤ hi))) ∧ Below w.heap.size w w' := by
  go_enter Try.func28, Try.ntmps28
  go_wp2
  all_goals (go_ret; exact ⟨ret_bool (by simp; try omega), Below.refl _ _⟩)
set_option maxRecDepth 100000 in
set_option maxHeartbeats 16000000 in
theorem findSays10 (ar : List Int) (cs : List (List Fc)) (size fuel : Int) (p q : Nat → Prop) (ao co : Option Addr) (ca cc : Nat) (w : World) (ha : intE.Row q w ao ar) (h : claimE.Row p w co cs) (hp : ∀ b, p b → b < w.heap.size) (hna : ar.length ≤ 2000000) (hn : cs.length ≤ 1000000)
    (hf : ∀ (i : Nat) c, cs[i]? = some c → c.length ≤ 1000000) (hs : ∀ (i : Nat) c, cs[i]? = some c → ∀ (j : Nat) t, (treesF c)[j]? = some t → t.size ≤ 2000000) :
    Calls Try.prog 10 #[.agg #[.slice ao ar.length ca, .slice co cs.length cc], .int .i64 size, .int .i64 fuel] w fun e w' => e = .returned (.bool true) ∧ Below w.heap.size w w' := by
  have HC := Lib.hid h; have HA := Lib.hid ha; have HP := Lib.hid hp; have HF := Lib.hid hf; have HS := Lib.hid hs
  have HN := Lib.hid (show ar.length ≤ 2000000 ∧ cs.length ≤ 1000000 from ⟨hna, hn⟩)
  have HML := Lib.hid (show ar.length ≤ maxLen ∧ cs.length ≤ maxLen from by unfold maxLen; omega)
  have hcs63 : cs.length ≤ 9223372036854775807 := by omega
  obtain ⟨bx, hbx⟩ : ∃ b, b = w.heap.size := ⟨_, rfl⟩
  have S1 := (St.start w).box hbx.symm #[.slice ao ar.length ca, .slice co cs.length cc] 29
  have hsz1 : (w.alloc (.cells #[.slice ao ar.length ca, .slice co cs.length cc] 29)).heap.size = bx + 1 := by simp [hbx]
  obtain ⟨⟨x0, _⟩, x1, _⟩ := S1.two 0
  clear h ha hp hf hs hna hn
  go_enter Try.func10, Try.ntmps10
  go_wp2_with fail
  rw [← hbx]
  refine S1.gen (z := bx + 1) (by omega) ?_
  intro w1 z1 S
  have HBX := Lib.hid (show w.heap.size ≤ bx by omega)
  clear S1 hbx hsz1 x0 x1
  refine (S.quiet (vastLoreF ar.length cs p ao co ca cc w1 (HC.out.kept S.bel) (fun b hb => Nat.lt_of_lt_of_le (HP.out b hb) S.bel.size) HN.out.1 HN.out.2 HF.out HS.out)).mono ?_
  rintro e w2 ⟨rfl, z2, S2⟩
  clear S
  cases hv : vastL ar.length cs with
  | true =>
    clear hv
    have SE := Lib.hid S2.bel
    clear S2
    go_wp2_with fail
    go_ret
    exact ⟨rfl, SE.out⟩
  | false =>
    have HVS := Lib.hid (vastL_smallF hv)
    have HS := Lib.hid (show ∀ (i : Nat) c, cs[i]? = some c → ∀ (j : Nat) t, (treesF c)[j]? = some t → t.size ≤ 1000000 from fun i c hc j t ht => by have := HVS.out.2.2.2 i c hc j t ht; omega)
    clear hv
    obtain ⟨⟨x0, _⟩, x1, _⟩ := S2.two 0
    go_wp2_with fail
    refine (S2.findd (doFind50 ar cs size fuel p q ao co ca cc w2 (HA.out.kept S2.bel) (HC.out.kept S2.bel) (fun b hb => Nat.lt_of_lt_of_le (HP.out b hb) S2.bel.size) HML.out.1 HML.out.2)).mono ?_
    rintro e w3 ⟨st, sz, to_, T, ct, c, d, rfl, HCD, HFD, z3, S3⟩
    clear x0 x1
    obtain ⟨pr, hpr⟩ : ∃ pr : Nat → Prop, pr = fun b => w2.heap.size ≤ b ∧ b < w3.heap.size := ⟨_, rfl⟩
    rw [← hpr] at S3
    obtain ⟨b8, hb8⟩ : ∃ b, b = w3.heap.size := ⟨_, rfl⟩
    have HB8 := Lib.hid (show bx + 1 ≤ b8 by omega)
    have HPR := Lib.hid (show ∀ b, pr b → bx + 1 ≤ b ∧ b < b8 from fun b hb => by rw [hpr] at hb; have := hb.1; have := hb.2; omega)
    clear hpr S2
    have S4 := (S3.box hb8.symm #[.int .i64 sz, .slice to_ T.length (T.length + ct)] 41).box (b := b8 + 1) (by simp [hb8]) #[.int .i64 c, .int .i64 d] 32
    have z4 : b8 + 2 ≤ ((w3.alloc (.cells #[.int .i64 sz, .slice to_ T.length (T.length + ct)] 41)).alloc (.cells #[.int .i64 c, .int .i64 d] 32)).heap.size := by simp [hb8]
    obtain ⟨⟨x0, _⟩, x1, _⟩ := S4.two 0
    clear S3
    go_wp2_with fail
    rw [← hb8]
    refine S4.gen (z := b8 + 2) z4 ?_
    intro w4 z5 S
    have S : St w w4 [.box bx #[.slice ao ar.length ca, .slice co cs.length cc] 29, .rowE intsE pr to_ T, .box b8 #[.int .i64 sz, .slice to_ T.length (T.length + ct)] 41, .box (b8 + 1) #[.int .i64 c, .int .i64 d] 32] := S
    clear S4 z4 hb8 x0 x1
    refine (S.faultF (lore51 ar cs p q ao co ca cc w4 (HA.out.kept S.bel) (HC.out.kept S.bel) (fun b hb => Nat.lt_of_lt_of_le (HP.out b hb) S.bel.size) (by have := HVS.out.1; omega) HN.out.2 HF.out HS.out)).mono ?_
    rintro e w5 ⟨C0, D0, rfl, HCL, z6, S5⟩
    obtain ⟨b10, hb10⟩ : ∃ b, b = w5.heap.size := ⟨_, rfl⟩
    have HB10 := Lib.hid (show b8 + 2 ≤ b10 by omega)
    have S6 := S5.box hb10.symm #[.int .i64 C0, .int .i64 D0] 32
    have z7 : b10 + 1 ≤ (w5.alloc (.cells #[.int .i64 C0, .int .i64 D0] 32)).heap.size := by simp [hb10]
    clear S5 S
    go_upto_region 5 with (fail)
    rw [← hb10]
    refine S6.genC (z := b10 + 1) z7 ?_
    intro w6 z8 S
    have S : St w w6 [.box bx #[.slice ao ar.length ca, .slice co cs.length cc] 29, .rowE intsE pr to_ T, .box b8 #[.int .i64 sz, .slice to_ T.length (T.length + ct)] 41, .box (b8 + 1) #[.int .i64 c, .int .i64 d] 32, .box b10 #[.int .i64 C0, .int .i64 D0] 32] := S
    clear S6 z7 hb10
    obtain ⟨Z, hZ⟩ : ∃ Z, Z = rangeW ar cs size fuel := ⟨_, rfl⟩
    have HZ := Lib.hid (show (rangeW ar cs size fuel) = if C0 ≠ 0 then (C0, D0) else if size < 1 ∨ 4 < size ∨ fuel < 0 ∨ 2000 < fuel then (3, -1) else (0, 0) by unfold rangeW; rw [HCL.out])
    have HD0 := Lib.hid (show C0 = 0 → D0 = 0 from fun e => by
      have h := loreF_zero (show (loreF ar cs).1 = 0 by rw [HCL.out]; exact e)
      rw [HCL.out] at h
      exact (Prod.mk.inj h.1).2)
    clear hZ Z
    go_cut [39] from 15 (fun t39 W => t39 = .bool (decide (C0 = 0 ∧ (size < 1 ∨ 4 < size ∨ fuel < 0 ∨ 2000 < fuel))) ∧ b10 + 1 ≤ W.heap.size ∧ St w W [.box bx #[.slice ao ar.length ca, .slice co cs.length cc] 29, .rowE intsE pr to_ T, .box b8 #[.int .i64 sz, .slice to_ T.length (T.length + ct)] 41, .box (b8 + 1) #[.int .i64 c, .int .i64 d] 32, .box b10 #[.int .i64 C0, .int .i64 D0] 32])
    case first =>
      obtain ⟨⟨x0, _⟩, x1, _⟩ := S.two 4
      by_cases hC0 : C0 = 0
      · have hcb : (C0 == 0) = true := by simp [hC0]
        go_wp2_with fail
        refine (S.quiet (in28F size 1 4 w6)).mono ?_
        rintro e w7 ⟨rfl, z9, S7⟩
        have z9' : b10 + 1 ≤ w7.heap.size := by omega
        clear S x0 x1
        by_cases hsz : 1 ≤ size ∧ size ≤ 4
        · rw [decide_eq_true hsz]
          go_wp2_with fail
          refine (S7.quiet (in28F fuel 0 2000 w7)).mono ?_
          rintro e w8 ⟨rfl, z10, S8⟩
          have z10' : b10 + 1 ≤ w8.heap.size := by omega
          clear S7
          by_cases hfu : 0 ≤ fuel ∧ fuel ≤ 2000
          · rw [decide_eq_true hfu]
            have HB := Lib.hid (show decide (C0 = 0 ∧ (size < 1 ∨ 4 < size ∨ fuel < 0 ∨ 2000 < fuel)) = false by rw [decide_eq_false_iff_not]; omega)
            clear hsz hfu hC0 hcb
            go_wp2_with fail
            go_meet
            case rel => exact ⟨congrArg Value.bool HB.out.symm, z10', S8⟩
          · rw [decide_eq_false hfu]
            have HB := Lib.hid (show decide (C0 = 0 ∧ (size < 1 ∨ 4 < size ∨ fuel < 0 ∨ 2000 < fuel)) = true by rw [decide_eq_true_eq]; omega)
            clear hsz hfu hC0 hcb
            go_wp2_with fail
            go_meet
            case rel => exact ⟨congrArg Value.bool HB.out.symm, z10', S8⟩
        · rw [decide_eq_false hsz]
          have HB := Lib.hid (show decide (C0 = 0 ∧ (size < 1 ∨ 4 < size ∨ fuel < 0 ∨ 2000 < fuel)) = true by rw [decide_eq_true_eq]; omega)
          clear hsz hC0 hcb
          go_wp2_with fail
          go_meet
          case rel => exact ⟨congrArg Value.bool HB.out.symm, z9', S7⟩
      · have hcb : (C0 == 0) = false := by simp [hC0]
        have HB := Lib.hid (show decide (C0 = 0 ∧ (size < 1 ∨ 4 < size ∨ fuel < 0 ∨ 2000 < fuel)) = false by rw [decide_eq_false_iff_not]; omega)
        clear hC0
        go_wp2_with fail
        go_meet
        case rel => exact ⟨congrArg Value.bool HB.out.symm, z8, S⟩
    case rest =>
      clear S z8
      obtain ⟨rfl, z8, S⟩ := hcut
      obtain ⟨BB, hBB⟩ : ∃ BB, BB = decide (C0 = 0 ∧ (size < 1 ∨ 4 < size ∨ fuel < 0 ∨ 2000 < fuel)) := ⟨_, rfl⟩
      rw [← hBB]
      go_upto_if 39 with (fail)
      go_cut [] from 15 (fun W => ∃ C D : Int, Hid (rangeW ar cs size fuel = (C, D)) ∧ b10 + 1 ≤ W.heap.size ∧ St w W [.box bx #[.slice ao ar.length ca, .slice co cs.length cc] 29, .rowE intsE pr to_ T, .box b8 #[.int .i64 sz, .slice to_ T.length (T.length + ct)] 41, .box (b8 + 1) #[.int .i64 c, .int .i64 d] 32, .box b10 #[.int .i64 C, .int .i64 D] 32])
      case first =>
        cases BB with
        | true =>
          have hb := of_decide_eq_true hBB.symm
          have HR := Lib.hid (show rangeW ar cs size fuel = (3, -1) by rw [HZ.out, if_neg (by simpa using hb.1), if_pos hb.2])
          clear hb hBB
          go_wp2_with fail
          refine (S.quiet (fault20 3 (-1) wc)).mono ?_
          rintro e we ⟨rfl, ze, Se⟩
          obtain ⟨⟨x0, x0f⟩, x1, x1f⟩ := Se.two 4
          have hl4 := Se.lt 4
          have Sf := Se.set2 4 rfl (.int .i64 3) (.int .i64 (-1)) (by have := HBX.out; have := HB8.out; have := HB10.out; omega) (by have := HBX.out; have := HB8.out; have := HB10.out; simp only [offs, offAll, Fct.box, Fct.rowE, and_true]; refine ⟨by omega, fun h => ?_, by omega, by omega⟩; have := HPR.out b10 h; omega)
          have zf : b10 + 1 ≤ ((we.setCell ⟨b10, 0, none⟩ (.int .i64 3)).setCell ⟨b10, 1, none⟩ (.int .i64 (-1))).heap.size := by simp; omega
          clear Se S
          go_wp2_with fail
          go_meet
          case rel => exact ⟨3, -1, HR.out, zf, Sf⟩
        | false =>
          have hb := of_decide_eq_false hBB.symm
          have HR := Lib.hid (show rangeW ar cs size fuel = (C0, D0) by
            rw [HZ.out]
            by_cases h0 : C0 = 0
            · rw [if_neg (by simpa using h0), if_neg (fun h => hb ⟨h0, h⟩), h0, HD0.out h0]
            · rw [if_pos h0])
          clear hb hBB
          go_wp2_with fail
          go_meet
          case rel => exact ⟨C0, D0, HR.out, z8, S⟩
      case rest =>
        clear S z8 HZ HD0 hBB
        obtain ⟨C1, D1, HR1, z8, S⟩ := hcut
        go_step
        go_step
        go_cut [] from 11 (fun W => ∃ C D : Int, Hid (findW ar cs size fuel = (C, D)) ∧ b10 + 1 ≤ W.heap.size ∧ St w W [.box bx #[.slice ao ar.length ca, .slice co cs.length cc] 29, .rowE intsE pr to_ T, .box b8 #[.int .i64 sz, .slice to_ T.length (T.length + ct)] 41, .box (b8 + 1) #[.int .i64 c, .int .i64 d] 32, .box b10 #[.int .i64 C, .int .i64 D] 32])
        case first =>
          go_wp2_with fail
          go_loopw [11] (fun i wr => ∃ (k : Nat) (C D : Int), k ≤ cs.length ∧ i = .int .i64 k ∧ Hid ((C1 ≠ 0 ∧ C = C1 ∧ D = D1) ∨ (C1 = 0 ∧ C = 0 ∧ D = 0 ∧ ∀ (j : Nat) y, j < k → cs[j]? = some y → wideB size.toNat y = false) ∨ (C1 = 0 ∧ C = 10 ∧ wrongW size.toNat cs = (10, D))) ∧ b10 + 1 ≤ wr.heap.size ∧ St w wr [.box bx #[.slice ao ar.length ca, .slice co cs.length cc] 29, .rowE intsE pr to_ T, .box b8 #[.int .i64 sz, .slice to_ T.length (T.length + ct)] 41, .box (b8 + 1) #[.int .i64 c, .int .i64 d] 32, .box b10 #[.int .i64 C, .int .i64 D] 32]) (fun i _ => cs.length - (intOf i).toNat)
          case atStart => exact ⟨0, C1, D1, by omega, rfl, by
            by_cases h : C1 = 0
            · have h2 := rangeW_zero2 (show (rangeW ar cs size fuel).1 = 0 by rw [HR1.out]; exact h)
              rw [HR1.out] at h2
              have h3 := (Prod.mk.inj h2).2
              exact .inr (.inl ⟨h, h, h3, fun j y hj => by omega⟩)
            · exact .inl ⟨h, rfl, rfl⟩, z8, S⟩
          case round =>
            clear S z8
            obtain ⟨k, C, D, hk, rfl, HK3, zh, Sh⟩ := hrel
            obtain ⟨⟨x0, _⟩, x1, _⟩ := Sh.two 4
            obtain ⟨_, x2, _⟩ := Sh.two 0
            by_cases hlt : k < cs.length
            · have hlti : (k : Int) < (cs.length : Int) := by omega
              by_cases hC : C = 0
              · obtain ⟨hC1, hD, hno⟩ : C1 = 0 ∧ D = 0 ∧ ∀ (j : Nat) y, j < k → cs[j]? = some y → wideB size.toNat y = false := by
                  rcases HK3.out with h | h | h
                  · exact absurd (h.2.1.symm.trans hC) h.1
                  · exact ⟨h.1, h.2.2⟩
                  · rw [hC] at h; exact absurd h.2.1 (by decide)
                subst hC hD
                have HNO := Lib.hid hno
                have HC1 := Lib.hid hC1
                have hrz := rangeW_zero (show (rangeW ar cs size fuel).1 = 0 by rw [HR1.out]; exact hC1)
                obtain ⟨s, hs⟩ : ∃ s : Nat, size = (s : Int) := ⟨size.toNat, by omega⟩
                have HSE := Lib.hid (show size.toNat = s by omega)
                have hs1 : 1 ≤ s := by omega
                have hs4 : s ≤ 4 := by omega
                have HLO := Lib.hid (loreF_zero hrz.1)
                have HSS := Lib.hid hs
                clear hno HK3 hC1 hrz
                obtain ⟨b, off, kc, sc, rfl, hpb, c0, h1, h2⟩ := (HC.out.kept Sh.bel).claim hlt
                obtain ⟨f, hf⟩ : ∃ f, f = cs[k] := ⟨_, rfl⟩
                have HFK := Lib.hid (show cs[k]? = some f by rw [hf]; exact List.getElem?_eq_getElem hlt)
                rw [← hf] at c0 h1 h2
                have HROW := Lib.hid h1
                have HCF := Lib.hid (HLO.out.2.2.2.2 f (List.mem_of_getElem? HFK.out))
                have hn8 : varsC f ≤ 8 := code_varsY HCF.out
                obtain ⟨PW, hPW⟩ : ∃ PW : Nat, s ^ varsC f = PW := ⟨_, rfl⟩
                have HPW := Lib.hid (show wideB size.toNat f = decide (4096 < PW) by rw [HSE.out, wide_powC hs1, hPW])
                have HC30 := Lib.hid (show ∀ W, Calls Try.prog 30 #[.int .i64 size, .int .i64 (varsC f : Nat)] W fun e w' => e = .returned (.int .i64 (PW : Nat)) ∧ Below W.heap.size W w' from fun W => by
                  have h := power30Y s (varsC f) W hs4 (by omega)
                  rw [hPW] at h
                  rw [hs]; exact h)
                clear hf h1 h2 hPW hn8 hs
                go_wp2_with fail
                refine (Sh.quiet (claimMost31 f p kc sc wr (HROW.out) (HF.out k f HFK.out) (fun b hb => Nat.lt_of_lt_of_le (HP.out b hb) Sh.bel.size) (code_lowY HCF.out))).mono ?_
                rintro e wi ⟨rfl, zi, Si⟩
                clear Sh x0 x1 x2 c0
                go_wp2_with fail
                refine (Si.quiet (HC30.out wi)).mono ?_
                rintro e wj ⟨rfl, zj, Sj⟩
                have zj' : b10 + 1 ≤ wj.heap.size := by omega
                clear Si
                by_cases hw : 4096 < PW
                · have hwi : (4096 : Int) < (PW : Int) := by omega
                  have HWH := Lib.hid (show wrongW size.toNat cs = (10, (k : Int)) by
                    have h1 : idxP (wideB size.toNat) cs = k := idxP_hit hlt HNO.out (by
                      have h2 : cs[k] = f := by have h3 := HFK.out; rw [List.getElem?_eq_getElem hlt] at h3; exact Option.some.inj h3
                      rw [h2, HPW.out, decide_eq_true hw])
                    unfold wrongW
                    rw [h1, if_pos (by omega)])
                  go_wp2_with fail
                  refine (Sj.quiet (fault20 10 k wj)).mono ?_
                  rintro e we ⟨rfl, ze, Se⟩
                  obtain ⟨⟨x0, x0f⟩, x1, x1f⟩ := Se.two 4
                  have hl4 := Se.lt 4
                  have Sf := Se.set2 4 rfl (.int .i64 10) (.int .i64 k) (by have := HBX.out; have := HB8.out; have := HB10.out; omega) (by have := HBX.out; have := HB8.out; have := HB10.out; simp only [offs, offAll, Fct.box, Fct.rowE, and_true]; refine ⟨by omega, fun h => ?_, by omega, by omega⟩; have := HPR.out b10 h; omega)
                  have zf : b10 + 1 ≤ ((we.setCell ⟨b10, 0, none⟩ (.int .i64 10)).setCell ⟨b10, 1, none⟩ (.int .i64 k)).heap.size := by simp; omega
                  clear Se Sj
                  go_wp2_with fail
                  go_roundw
                  case rel => exact ⟨k + 1, 10, k, by omega, by go_num, .inr (.inr ⟨HC1.out, rfl, HWH.out⟩), zf, Sf⟩
                  case measure => simp [intOf] <;> omega
                · have hwi : ¬ (4096 : Int) < (PW : Int) := by omega
                  have HNO2 := Lib.hid (show ∀ (j : Nat) y, j < k + 1 → cs[j]? = some y → wideB size.toNat y = false from fun j y hj hy => by
                    rcases Nat.lt_succ_iff_lt_or_eq.1 hj with h | rfl
                    · exact HNO.out j y h hy
                    · rw [HFK.out] at hy
                      obtain rfl := Option.some.inj hy
                      rw [HPW.out, decide_eq_false hw])
                  go_wp2_with fail
                  go_roundw
                  case rel => exact ⟨k + 1, 0, 0, by omega, by go_num, .inr (.inl ⟨HC1.out, rfl, rfl, HNO2.out⟩), zj', Sj⟩
                  case measure => simp [intOf] <;> omega
              · have hCb : (C == 0) = false := by simpa using hC
                have HWH := Lib.hid (show findW ar cs size fuel = (C, D) by
                  rcases HK3.out with h | h | h
                  · rw [rangeW_bad (by rw [HR1.out]; exact h.1), HR1.out, h.2.1, h.2.2]
                  · exact absurd h.2.1 hC
                  · rw [(rangeW_zero (by rw [HR1.out]; exact h.1)).2.2.2.2.2, h.2.2, h.2.1])
                go_wp2_with fail
                go_meet
                case rel => exact ⟨C, D, HWH.out, zh, Sh⟩
            · obtain rfl : k = cs.length := by omega
              have HWH := Lib.hid (show findW ar cs size fuel = (C, D) by
                rcases HK3.out with h | h | h
                · rw [rangeW_bad (by rw [HR1.out]; exact h.1), HR1.out, h.2.1, h.2.2]
                · have h1 : idxP (wideB size.toNat) cs = -1 := idxP_none h.2.2.2
                  rw [(rangeW_zero (by rw [HR1.out]; exact h.1)).2.2.2.2.2]
                  unfold wrongW; rw [h1, if_neg (by omega), h.2.1, h.2.2.1]
                · rw [(rangeW_zero (by rw [HR1.out]; exact h.1)).2.2.2.2.2, h.2.2, h.2.1])
              go_wp2_with fail
              go_meet
              case rel => exact ⟨C, D, HWH.out, zh, Sh⟩
        case rest =>
          clear S z8 HR1
          obtain ⟨C, D, HW, z8, S⟩ := hcut
          obtain ⟨h1, h2⟩ : C = c ∧ D = d := by
            have h := HCD.out
            rw [HW.out] at h
            exact ⟨(Prod.mk.inj h).1.symm, (Prod.mk.inj h).2.symm⟩
          subst h1 h2
          clear HCD
          obtain ⟨⟨x0, _⟩, x1, _⟩ := S.two 3
          obtain ⟨⟨y0, _⟩, y1, _⟩ := S.two 4
          obtain ⟨⟨u0, _⟩, u1, _⟩ := S.two 2
          obtain ⟨⟨v0, _⟩, v1, _⟩ := S.two 0
          by_cases hc : C = 0
          · have hcb : (C != 0) = false := by simp [hc]
            have hce : (C == 0) = true := by simp [hc]
            have HWZ := Lib.hid (findW_zero (show (findW ar cs size fuel).1 = 0 by rw [HW.out]; exact hc))
            have HFO := Lib.hid (findOut_of HWZ.out.1 HWZ.out.2 (by
              rcases HFD.out with h | h
              · exact absurd hc h.1
              · exact h.2))
            have HLO := Lib.hid (loreF_zero HWZ.out.1)
            clear HFD HW
            obtain ⟨s, hs, hs1, hs4, hcase⟩ := HFO.out
            subst hs
            have HT52 := Lib.hid (show ∀ W, Below w.heap.size w W → Calls Try.prog 52 #[.agg #[.slice ao ar.length ca, .slice co cs.length cc], .int .i64 s] W fun e w' => e = .returned (.int .i64 (tabsN s ar : Nat)) ∧ Below W.heap.size W w' from fun W hb => tables52 ar s hs1 hs4 HLO.out.2.2.2.1 (by have := HLO.out.2.1; omega) q ao ca (.slice co cs.length cc) W (HA.out.kept hb))
            have HF54 := Lib.hid (show ∀ W, Below w.heap.size w W → Calls Try.prog 54 #[.agg #[.slice ao ar.length ca, .slice co cs.length cc], .int .i64 s] W fun e w' => e = .returned (.int .i64 (foundF s ar cs)) ∧ Below W.heap.size W w' from fun W hb => found54 ar cs s hs1 hs4 HLO.out.2.2.2.1 HLO.out.2.2.2.2 (by have := HLO.out.2.1; omega) p q ao co ca cc W (HA.out.kept hb) (HC.out.kept hb) (fun b h => Nat.lt_of_lt_of_le (HP.out b h) hb.size) HN.out.2 HF.out)
            obtain ⟨N, hN⟩ : ∃ N, tabsN s ar = N := ⟨_, rfl⟩
            rw [hN] at HT52
            clear hc
            rcases hcase with ⟨h1, h2, h3, h4, h5⟩ | ⟨h1, h2, h3, h4⟩ | ⟨h1, h2, h3, h4⟩
            · subst h1 h2
              have HTK := Lib.hid h3; have HMB := Lib.hid h4; have HK5 := Lib.hid h5; have HNN := Lib.hid hN
              clear h3 h4 h5 hN
              go_wp2_with fail
              refine (S.quiet (HT52.out wc S.bel)).mono ?_
              rintro e we ⟨rfl, ze, Se⟩
              have ze' : b10 + 1 ≤ we.heap.size := by omega
              clear S x0 x1 y0 y1 u0 u1 v0 v1
              obtain ⟨⟨u0, _⟩, u1, _⟩ := Se.two 2
              obtain ⟨⟨v0, _⟩, v1, _⟩ := Se.two 0
              have HTL := Lib.hid (show T.length ≤ 12 by rw [HTK.out.2.2.1]; exact HLO.out.2.1)
              by_cases hN3 : 3000 < N
              · have hN3i : (3000 : Int) < (N : Int) := by omega
                have hfld := field28_0
                have H23 := Lib.hid (show Calls Try.prog 23 #[.agg #[.slice ao ar.length ca, .slice co cs.length cc], .agg #[.int .i64 s, .slice to_ T.length (T.length + ct)]] we fun e w' => e = .returned (.agg #[.int .i64 0, .int .i64 0]) ∧ Below we.heap.size we w' from by
                  have h := table23 ar cs s T p q pr ao co to_ ca cc ct we (HA.out.kept Se.bel) (HC.out.kept Se.bel) (Se.rowE intsE 1) (fun b hb => Nat.lt_of_lt_of_le (HP.out b hb) Se.bel.size) (by have := HVS.out.1; omega) HN.out.2 (by have := HTL.out; unfold maxLen; omega) HF.out HS.out
                  rw [tabF_good HWZ.out.1 HTK.out] at h; exact h)
                go_wp2_with fail
                refine (Se.quiet H23.out).mono ?_
                rintro e wf ⟨rfl, zf, Sf⟩
                clear Se u0 u1 v0 v1 H23
                obtain ⟨⟨u0, _⟩, u1, _⟩ := Sf.two 2
                obtain ⟨⟨v0, _⟩, v1, _⟩ := Sf.two 0
                have H53 := Lib.hid (show Calls Try.prog 53 #[.agg #[.slice ao ar.length ca, .slice co cs.length cc], .agg #[.int .i64 s, .slice to_ T.length (T.length + ct)]] wf fun e w' => e = .returned (.bool true) ∧ Below wf.heap.size wf w' from by
                  have h := model53 ar cs s T HTK.out HLO.out.2.2.2.2 p pr co to_ (.slice ao ar.length ca) cc ct wf (HC.out.kept Sf.bel) (Sf.rowE intsE 1) (fun b hb => Nat.lt_of_lt_of_le (HP.out b hb) Sf.bel.size) HN.out.2 HF.out
                  rw [HMB.out] at h; exact h)
                go_wp2_with fail
                refine (Sf.quiet H53.out).mono ?_
                rintro e wg ⟨rfl, zg, Sg⟩
                have SE := Lib.hid Sg.bel
                clear Sf Sg u0 u1 v0 v1 H53
                go_wp2_with fail
                go_ret
                exact ⟨rfl, SE.out⟩
              · have hN3i : ¬ (3000 : Int) < (N : Int) := by omega
                have hsm := tabs_small (s := s) (ar := ar) (by rw [HNN.out]; omega)
                obtain ⟨k, hk, hfk, hTk⟩ := HK5.out hsm
                have HKB := Lib.hid (show k ≤ 1000000 by omega)
                have h54 := HF54.out we Se.bel
                rw [hfk] at h54
                have H54 := Lib.hid h54
                have hk0 : ¬ (k : Int) < 0 := by omega
                have HTN := Lib.hid hTk
                clear h54 hk hfk hsm hTk
                go_wp2_with fail
                refine (Se.quiet H54.out).mono ?_
                rintro e wf ⟨rfl, zf, Sf⟩
                clear Se u0 u1 v0 v1 H54
                obtain ⟨⟨v0, _⟩, v1, _⟩ := Sf.two 0
                have h55 := numbered55 ar s k hs1 hs4 HLO.out.2.2.2.1 (by have := HLO.out.2.1; omega) HKB.out q ao ca (.slice co cs.length cc) wf (HA.out.kept Sf.bel)
                rw [← HTN.out] at h55
                have H55 := Lib.hid h55
                clear h55
                go_wp2_with fail
                refine (Sf.numbered H55.out).mono ?_
                rintro e wg ⟨to2, ct2, rfl, zg, Sg⟩
                obtain ⟨p2, hp2⟩ : ∃ p2 : Nat → Prop, p2 = fun b => wf.heap.size ≤ b ∧ b < wg.heap.size := ⟨_, rfl⟩
                rw [← hp2] at Sg
                obtain ⟨b13, hb13⟩ : ∃ b, b = wg.heap.size := ⟨_, rfl⟩
                have Sh := Sg.box hb13.symm #[.int .i64 s, .slice to2 T.length (T.length + ct2)] 41
                have zh : b13 + 1 ≤ (wg.alloc (.cells #[.int .i64 s, .slice to2 T.length (T.length + ct2)] 41)).heap.size := by simp [hb13]
                clear Sf Sg v0 v1 H55 hp2
                obtain ⟨⟨u0, _⟩, u1, _⟩ := Sh.two 2
                obtain ⟨⟨x0, _⟩, x1, _⟩ := Sh.two 6
                go_wp2_with fail
                rw [← hb13]
                clear u0 u1 x0 x1
                refine Sh.genC (z := b13 + 1) zh ?_
                intro wh zh' S
                have S : St w wh [.box bx #[.slice ao ar.length ca, .slice co cs.length cc] 29, .rowE intsE pr to_ T, .box b8 #[.int .i64 s, .slice to_ T.length (T.length + ct)] 41, .box (b8 + 1) #[.int .i64 C, .int .i64 D] 32, .box b10 #[.int .i64 C, .int .i64 D] 32, .rowE intsE p2 to2 T, .box b13 #[.int .i64 s, .slice to2 T.length (T.length + ct2)] 41] := S
                clear Sh zh hb13
                go_loopw [14] (fun i wr => ∃ k2 : Nat, k2 ≤ T.length ∧ i = .int .i64 k2 ∧ b13 + 1 ≤ wr.heap.size ∧ St w wr [.box bx #[.slice ao ar.length ca, .slice co cs.length cc] 29, .rowE intsE pr to_ T, .box b8 #[.int .i64 s, .slice to_ T.length (T.length + ct)] 41, .box (b8 + 1) #[.int .i64 C, .int .i64 D] 32, .box b10 #[.int .i64 C, .int .i64 D] 32, .rowE intsE p2 to2 T, .box b13 #[.int .i64 s, .slice to2 T.length (T.length + ct2)] 41]) (fun i _ => T.length - (intOf i).toNat)
                case atStart => exact ⟨0, by omega, rfl, zh', S⟩
                case round =>
                  clear S zh'
                  obtain ⟨k2, hk2, rfl, zr, Sr⟩ := hrel
                  have hTLb : T.length ≤ 12 := HTL.out
                  obtain ⟨_, u1, _⟩ := Sr.two 2
                  by_cases hlt : k2 < T.length
                  · have hlti : (k2 : Int) < (T.length : Int) := by omega
                    obtain ⟨bb, boff, ka, sa, rfl, _, d0, r0, _⟩ := (Sr.rowE intsE 1).ints hlt
                    obtain ⟨bc, coff, kb, sb, rfl, _, e0, r1, _⟩ := (Sr.rowE intsE 5).ints hlt
                    obtain ⟨_, x1, _⟩ := Sr.two 6
                    obtain ⟨R, hR⟩ : ∃ R, R = T[k2] := ⟨_, rfl⟩
                    have HRL := Lib.hid (show R.length ≤ 1000000000 from Nat.le_trans (rowlen64 HTK.out (i := k2) (by rw [hR]; exact List.getElem?_eq_getElem hlt)) (by decide))
                    rw [← hR] at d0 r0 e0 r1
                    have HR0 := Lib.hid r0; have HR1 := Lib.hid r1
                    clear r0 r1 hR
                    have CA := Lib.hid (fun d os => Calls.regrown_of (ints56X R pr p2 ka kb (R.length + sa) (R.length + sb) (Go.Sort.grow (redrawn wr d) os) (HR0.out.kept (below_regrown wr d os)) (HR1.out.kept (below_regrown wr d os)) HRL.out))
                    have q0 := cell_regrown u1; have q1 := cell_regrown x1; have q2 := cell_regrown d0; have q3 := cell_regrown e0
                    go_wp2_with fail
                    clear u1 x1 d0 e0
                    refine wp_region_quiet_below (by kernel_rfl) (by kernel_rfl) ?_
                    repeat (go_big_quiet_step (first | with_reducible exact CA.out _ _))
                    refine wpQuiet_nil ?_
                    intro _ hw'
                    obtain ⟨⟨dq, osq⟩, hw''⟩ := hw'
                    subst hw''
                    refine (Sr.regrown dq osq).genX (z := b13 + 1) (Nat.le_trans zr (below_regrown wr dq osq).size) ?_
                    intro wi zi Si
                    clear q0 q1 q2 q3 CA Sr
                    go_wp2_with fail
                    go_roundw
                    case rel => exact ⟨k2 + 1, by omega, by go_num, zi, Si⟩
                    case measure => simp [intOf] <;> omega
                  · obtain rfl : k2 = T.length := by omega
                    have SE := Lib.hid Sr.bel
                    clear Sr
                    go_wp2_with fail
                    go_ret
                    exact ⟨rfl, SE.out⟩
            · subst h1 h2 h3
              have HK4 := Lib.hid h4; have HNN := Lib.hid hN
              clear h4 hN
              go_wp2_with fail
              refine (S.quiet (HT52.out wc S.bel)).mono ?_
              rintro e we ⟨rfl, ze, Se⟩
              have ze' : b10 + 1 ≤ we.heap.size := by omega
              clear S x0 x1 y0 y1 u0 u1 v0 v1
              obtain ⟨⟨u0, _⟩, u1, _⟩ := Se.two 2
              obtain ⟨⟨v0, _⟩, v1, _⟩ := Se.two 0
              by_cases hN3 : 3000 < N
              · have hN3i : (3000 : Int) < (N : Int) := by omega
                have SE := Lib.hid Se.bel
                clear Se
                go_wp2_with fail
                go_ret
                exact ⟨rfl, SE.out⟩
              · have hN3i : ¬ (3000 : Int) < (N : Int) := by omega
                have h54 := HF54.out we Se.bel
                rw [HK4.out (tabs_small (by rw [HNN.out]; omega))] at h54
                have H54 := Lib.hid h54
                clear h54
                go_wp2_with fail
                refine (Se.quiet H54.out).mono ?_
                rintro e wf ⟨rfl, zf, Sf⟩
                clear Se u0 u1 v0 v1
                obtain ⟨⟨u0, _⟩, u1, _⟩ := Sf.two 2
                have SE := Lib.hid Sf.bel
                clear Sf
                go_wp2_with fail
                go_ret
                exact ⟨rfl, SE.out⟩
            · subst h1 h2 h3
              rw [hN] at h4
              clear hN
              by_cases hfu : fuel < 2000
              · clear h4
                have SE := Lib.hid S.bel
                clear S
                go_wp2_with fail
                go_ret
                exact ⟨rfl, SE.out⟩
              · have hN1 : (1000 : Int) < (N : Int) := by omega
                clear h4
                go_wp2_with fail
                refine (S.quiet (HT52.out wc S.bel)).mono ?_
                rintro e we ⟨rfl, ze, Se⟩
                have SE := Lib.hid Se.bel
                clear S Se x0 x1 y0 y1 u0 u1 v0 v1
                go_wp2_with fail
                go_ret
                exact ⟨rfl, SE.out⟩
          · have hcb : (C != 0) = true := by simp [hc]
            obtain ⟨_, h1, h2, h3⟩ : C ≠ 0 ∧ st = 0 ∧ sz = 0 ∧ T = [] := by
              rcases HFD.out with h | h
              · exact h
              · exact absurd h.1 hc
            subst h1 h2 h3
            have SE := Lib.hid S.bel
            clear S HFD HW
            go_wp2_with fail
            go_ret
            exact ⟨rfl, SE.out⟩
end Go.Proofs.Yteekoclfpehnpaa
