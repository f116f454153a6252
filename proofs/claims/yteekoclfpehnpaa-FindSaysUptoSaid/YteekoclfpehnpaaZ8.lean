/-
  Walks: the document's All.
-/
import Derived.Test.YteekoclfpehnpaaProg
import Derived.Test.YteekoclfpehnpaaZ6
import Derived.Test.YteekoclfpehnpaaE6
import Derived.Test.YteekoclfpehnpaaT33h
import Derived.Test.YteekoclfpehnpaaG2
import Derived.RegionTactic
import Derived.BigQuiet
namespace Go.Proofs.Yteekoclfpehnpaa
open Go.RowKit Go.Shelf
set_option linter.unusedVariables false
set_option maxHeartbeats 400000

/-- is a claim so, of all things that begin so -/
noncomputable def allF (s : Nat) (tb : List (List Int)) (fs : List Fc) : Nat → List Int → Bool
  | 0, th => fs.any (factB s tb th)
  | m + 1, th => (List.range s).all fun n => allF s tb fs m (th ++ [(n : Int)])
theorem flat_ints : ∀ (l : List Int), (l.map fun a => [Value.int .i64 a]).flatten = l.map (Value.int .i64)
  | [] => rfl
  | a :: r => by rw [List.map_cons, List.flatten_cons, flat_ints r]; rfl
theorem own_ints {B : Nat} {w : World} {v : Value} {th : List Int} (h : w.ownsRow B 3 1 v th.length (th.map (Value.int .i64))) : intE.Own pF B w v th :=
  ⟨th.map fun a => [Value.int .i64 a], by simp, by rw [flat_ints]; exact h, fun i cs x h1 h2 => by
    rw [List.getElem?_map, h2] at h1
    exact (Option.some.inj h1).symm⟩
theorem Elt.Row.ints_news {q : Nat → Prop} {w : World} {ao : Option Addr} {l : List Int} (h : intE.Row q w ao l) : ∀ ad, ao = some ad → ∀ j u, (l.map (Value.int .i64))[j]? = some u → w.cell? (ad.add j) = some u := fun ad he j u hu => by
  have hj : j < l.length := by
    have := (List.getElem?_eq_some_iff.1 hu).1; simpa using this
  obtain ⟨b, off, e, _, hc⟩ := h.int hj
  rw [he] at e
  obtain rfl := Option.some.inj e
  rw [Addr.add_lit, hc]
  rw [List.getElem?_map, List.getElem?_eq_getElem hj] at hu
  exact hu
theorem Elt.Row.none_len {q : Nat → Prop} {w : World} {l : List Int} (h : intE.Row q w none l) : l.length = 0 := by
  cases l with
  | nil => rfl
  | cons a r =>
    obtain ⟨b, off, e, _, _⟩ := h.int (i := 0) (by simp)
    cases e
set_option maxRecDepth 100000 in
set_option maxHeartbeats 4000000 in
theorem all32 (ar : List Int) (s : Nat) (tb : List (List Int)) (hT : TabOK ar s tb) (fs : List Fc) (hok : ∀ t ∈ treesF fs, t.sig ar) (hn : fs.length ≤ 1000000) (vars : Nat) (hvs : vars ≤ 1000) : ∀ (m : Nat) (th : List Int), th.length + m = vars → ThOK s th →
    ∀ (p q r : Nat → Prop) (to_ co tho : Option Addr) (ct sp c : Nat) (w : World), (tho = none → c = 0) → intsE.Row r w to_ tb → factE.Row p w co fs → intE.Row q w tho th →
    Calls Try.prog 32 #[.agg #[.int .i64 s, .slice to_ tb.length (tb.length + ct)], .agg #[.slice co fs.length (fs.length + sp)], .slice tho th.length c, .int .i64 vars] w fun e w' => e = .returned (.bool (allF s tb fs m th)) ∧ Below w.heap.size w w' := by
  have HOK := Lib.hid hok
  intro m
  induction m with
  | zero =>
    intro th hm hth p q r to_ co tho ct sp c w hno hrow h hthr
    have HR := Lib.hid hrow; have HH := Lib.hid hthr; have HC := Lib.hid h
    obtain ⟨bx, hbx⟩ : ∃ b, b = w.heap.size := ⟨_, rfl⟩
    have S1 := ((St.start w).box hbx.symm #[.int .i64 s, .slice to_ tb.length (tb.length + ct)] 41).box (b := bx + 1) (by simp [hbx]) #[.slice co fs.length (fs.length + sp)] 24
    have hsz1 : ((w.alloc (.cells #[.int .i64 s, .slice to_ tb.length (tb.length + ct)] 41)).alloc (.cells #[.slice co fs.length (fs.length + sp)] 24)).heap.size = bx + 2 := by simp [hbx]
    have HBX := Lib.hid hbx
    obtain rfl : th.length = vars := by omega
    have hlen : th.length ≤ 1000 := hvs
    clear hrow h hthr hok
    go_enter Try.func32, Try.ntmps32
    obtain ⟨⟨x0, _⟩, x1, _⟩ := S1.two 0
    obtain ⟨y0, _⟩ := S1.one 1
    go_wp2_with fail
    rw [← hbx]
    refine S1.gen (z := bx + 2) (by omega) ?_
    intro w1 z1 S
    clear S1 hbx hsz1 x0 x1 y0
    refine (S.quiet (true83 ar s tb hT fs HOK.out hn th hth (by omega) p q r to_ co tho ct sp c w1 (HR.out.kept S.bel) (HC.out.kept S.bel) (HH.out.kept S.bel))).mono ?_
    rintro e w2 ⟨rfl, z2, S2⟩
    have SE := Lib.hid S2.bel
    clear S S2
    go_wp2_with fail
    go_ret
    exact ⟨rfl, SE.out⟩
  | succ m ih =>
    intro th hm hth p q r to_ co tho ct sp c w hno hrow h hthr
    have HR := Lib.hid hrow; have HH := Lib.hid hthr; have HC := Lib.hid h; have IH := Lib.hid ih
    obtain ⟨i3, gi, gz0, gz1, gz2⟩ := info_parts infoI
    obtain ⟨bx, hbx⟩ : ∃ b, b = w.heap.size := ⟨_, rfl⟩
    have S1 := ((St.start w).box hbx.symm #[.int .i64 s, .slice to_ tb.length (tb.length + ct)] 41).box (b := bx + 1) (by simp [hbx]) #[.slice co fs.length (fs.length + sp)] 24
    have hsz1 : ((w.alloc (.cells #[.int .i64 s, .slice to_ tb.length (tb.length + ct)] 41)).alloc (.cells #[.slice co fs.length (fs.length + sp)] 24)).heap.size = bx + 2 := by simp [hbx]
    have HBX := Lib.hid hbx
    have HL := Lib.hid (show th.length ≤ 1000 by omega)
    have hs4 : s ≤ 4 := hT.2.1
    have HM := Lib.hid hm
    have HTH := Lib.hid hth
    have hne : ((th.length : Int) == (vars : Int)) = false := by simp; omega
    have HN0 := Lib.hid (show tho = none → th.length = 0 ∧ c = 0 from fun e => ⟨by subst e; exact hthr.none_len, hno e⟩)
    clear hrow h hthr hok ih hno hth
    go_enter Try.func32, Try.ntmps32
    go_wp2_with fail
    rw [← hbx]
    refine S1.genC (z := bx + 2) (by omega) ?_
    intro w1 z1 S
    clear S1 hbx hsz1
    go_loopw [9, 10] (fun i _ wr => ∃ k : Nat, k ≤ s ∧ i = .int .i64 k ∧ (∀ (j : Nat), j < k → allF s tb fs m (th ++ [(j : Int)]) = true) ∧ bx + 2 ≤ wr.heap.size ∧ St w wr [.box bx #[.int .i64 s, .slice to_ tb.length (tb.length + ct)] 41, .box (bx + 1) #[.slice co fs.length (fs.length + sp)] 24]) (fun i _ _ => s - (intOf i).toNat)
    case atStart => exact ⟨0, by omega, rfl, fun j hj => by omega, z1, S⟩
    case round =>
      clear S
      obtain ⟨k, hk, rfl, hno, z2, S⟩ := hrel
      have HNO := Lib.hid hno
      clear hno
      obtain ⟨⟨x0, _⟩, x1, _⟩ := S.two 0
      by_cases hlt : k < s
      · have hlti : (k : Int) < (s : Int) := by omega
        have HKS := Lib.hid hlt
        go_wp2_with (at_builtin; refine wpList_append_own_any rfl (.tmp 25) (.tmp 26) 27 rfl (bx + 2) 3 i3 (.int .i64 0) 1 8 Try.underlying27 gi gz0 gz1 gz2 rfl (by decide) (.slice none 0 0) 0 [] rfl (World.ownsRow_nil _ _ _ _) tho th.length c (th.map (Value.int .i64)) rfl HN0.out (by simp) (HH.out.kept S.bel).ints_news (ints_one _) ?c3 ?c4 z2 ?_)
        case c3 => have := HL.out; unfold maxLen; omega
        case c4 => have := HL.out; omega
        intro v' w3 hown hg
        have S3 := (S.carry (w' := w3) ((S.bel).grown hg (by have := HBX.out; omega) (fun c hc => by cases hc)) (fun i b _ hl => hg.block b hl (by simp [Value.ownBlock]))).add (.owns intE (bx + 2) pF v' th) (own_ints (by simpa using hown))
        have HZ3 := Lib.hid (show bx + 2 ≤ w3.heap.size from Nat.le_trans z2 hg.size)
        clear S hown hg x0 x1
        go_wp2_with fail
        have SD : St w w3.drew [.box bx #[.int .i64 s, .slice to_ tb.length (tb.length + ct)] 41, .box (bx + 1) #[.slice co fs.length (fs.length + sp)] 24, .owns intE (bx + 2) pF v' th] := S3.drew
        have HOWL := Lib.hid (SD.ownlt intE 2)
        have HLL := Lib.hid (show (th ++ [(k : Int)]).length = th.length + 1 by simp)
        have HTHK := Lib.hid (show ThOK s (th ++ [(k : Int)]) from fun x hx => by
          rcases List.mem_append.1 hx with h | h
          · exact HTH.out x h
          · obtain rfl : x = (k : Int) := by simpa using h
            have := HKS.out; omega)
        obtain ⟨B, hB⟩ : ∃ B, allF s tb fs m (th ++ [(k : Int)]) = B := ⟨_, rfl⟩
        have HBV := Lib.hid hB
        clear S3 hB
        refine wpG_region 99 (fun W => (W.cell? ⟨bx, 0, none⟩ = some (.int .i64 s) ∧ W.cell? ⟨bx, 1, none⟩ = some (.slice to_ tb.length (tb.length + ct))) ∧ W.cell? ⟨bx + 1, 0, none⟩ = some (.slice co fs.length (fs.length + sp))) (by kernel_rfl) ?_
        have HS := And.intro (And.intro (SD.two 0).1.1 (SD.two 0).2.1) (SD.one 1).1
        refine wpG.take0 (i := 0) (by kernel_rfl) (by kernel_rfl) (by kernel_rfl) (by kernel_rfl) HS ?_
        intro oi ho
        simp only [List.getElem?_toArray, List.getElem?_cons_zero, Option.some.injEq] at ho
        subst ho
        refine ⟨?_, Or.inl ⟨by rfl, ?_⟩, fun _ _ _ h => h, ?_⟩
        rotate_left 1
        · intro W hW
          try dsimp only at hW
          go_simp
          try with_reducible rfl
        simp only [Act.put, List.setIfInBounds_toArray, List.set_cons_zero, List.set_cons_succ]
        refine wpG.take0 (i := 1) (by kernel_rfl) (by kernel_rfl) (by kernel_rfl) (by kernel_rfl) HS ?_
        intro oi ho
        simp only [List.getElem?_toArray, List.getElem?_cons_succ, List.getElem?_cons_zero, Option.some.injEq] at ho
        subst ho
        refine ⟨?_, Or.inl ⟨by rfl, ?_⟩, fun _ _ _ h => h, ?_⟩
        rotate_left 1
        · intro W hW
          try dsimp only at hW
          go_simp
          try with_reducible rfl
        simp only [Act.put, List.setIfInBounds_toArray, List.set_cons_zero, List.set_cons_succ]
        refine wpG.take0 (i := 2) (by kernel_rfl) (by kernel_rfl) (by kernel_rfl) (by kernel_rfl) HS ?_
        intro oi ho
        simp only [List.getElem?_toArray, List.getElem?_cons_succ, List.getElem?_cons_zero, Option.some.injEq] at ho
        subst ho
        refine ⟨?_, Or.inl ⟨by rfl, ?_⟩, fun _ _ _ h => h, ?_⟩
        rotate_left 1
        · intro W hW
          try dsimp only at hW
          go_simp
          try with_reducible rfl
        simp only [Act.put, List.setIfInBounds_toArray, List.set_cons_zero, List.set_cons_succ]
        refine wpG.take0 (i := 3) (by kernel_rfl) (by kernel_rfl) (by kernel_rfl) (by kernel_rfl) HS ?_
        intro oi ho
        simp only [List.getElem?_toArray, List.getElem?_cons_succ, List.getElem?_cons_zero, Option.some.injEq] at ho
        subst ho
        refine ⟨?_, Or.inl ⟨by rfl, ?_⟩, fun _ _ _ h => h, ?_⟩
        rotate_left 1
        · intro W hW
          try dsimp only at hW
          go_simp
          try with_reducible rfl
        simp only [Act.put, List.setIfInBounds_toArray, List.set_cons_zero, List.set_cons_succ]
        refine wpG.take0 (i := 6) (by kernel_rfl) (by kernel_rfl) (by kernel_rfl) (by kernel_rfl) HS ?_
        intro oi ho
        simp only [List.getElem?_toArray, List.getElem?_cons_succ, List.getElem?_cons_zero, Option.some.injEq] at ho
        subst ho
        refine ⟨?_, Or.inl ⟨by rfl, ?_⟩, fun _ _ _ h => h, ?_⟩
        rotate_left 1
        · intro W hW
          try dsimp only at hW
          go_simp
          try with_reducible rfl
        simp only [Act.put, List.setIfInBounds_toArray, List.set_cons_zero, List.set_cons_succ]
        refine wpG.one (i := 4) (by kernel_rfl) ?_
        intro oi ho
        simp only [List.getElem?_toArray, List.getElem?_cons_succ, List.getElem?_cons_zero, Option.some.injEq] at ho
        subst ho
        intro K hK
        have HK := Lib.hid hK
        have HSH := Lib.hid HS
        clear hK HS
        have SA := SD.alloc (.cells #[.int .i64 k] 3)
        go_simp
        refine HK.out _ _ (fun _ => And.intro (And.intro (SA.two 0).1.1 (SA.two 0).2.1) (SA.one 1).1) ?_
        have HS := And.intro (And.intro (SA.two 0).1.1 (SA.two 0).2.1) (SA.one 1).1
        try simp only [Act.put, List.setIfInBounds_toArray, List.set_cons_zero, List.set_cons_succ]
        refine wpG.one (i := 5) (by kernel_rfl) ?_
        intro oi ho
        simp only [List.getElem?_toArray, List.getElem?_cons_succ, List.getElem?_cons_zero, Option.some.injEq] at ho
        subst ho
        intro K hK
        have HK := Lib.hid hK
        have HSH := Lib.hid HS
        clear hK HS
        refine step_app (by rfl) (.tmp 30) (.tmp 32) 27 (by rfl) intE SD 2 rfl (x := (k : Int)) (q := pF) (p' := pF) (by rfl) Try.underlying27 gi gz0 gz1 gz2 (by rfl) (by rfl) (by rfl) (by rfl) (by have := HL.out; unfold maxLen; omega) (by have := HL.out; omega) (by have := HZ3.out; exact this) (by have := HBX.out; omega) (fun bb h1 h2 h3 => by have := HOWL.out bb h1; simp only [offs, offAll, Fct.box, and_true]; omega) (fun bb h1 h2 => h1.elim) (fun bb h1 => by rcases h1 with h1 | h1 <;> exact h1.elim) ?_
        intro gg cap w7 S7 z7 hgg hat
        have z7 : w3.heap.size ≤ w7.heap.size := z7
        change St w w7 [.box bx #[.int .i64 s, .slice to_ tb.length (tb.length + ct)] 41, .box (bx + 1) #[.slice co fs.length (fs.length + sp)] 24, .owns intE (bx + 2) pF (.slice (some ⟨gg, 0, none⟩) (th.length + 1) cap) (th ++ [(k : Int)])] at S7
        clear SA HSH
        refine HK.out _ _ (fun _ => And.intro (And.intro (S7.two 0).1.1 (S7.two 0).2.1) (S7.one 1).1) ?_
        have HS := And.intro (And.intro (S7.two 0).1.1 (S7.two 0).2.1) (S7.one 1).1
        try simp only [Act.put, List.setIfInBounds_toArray, List.set_cons_zero, List.set_cons_succ]
        refine wpG.one (i := 7) (by kernel_rfl) ?_
        intro oi ho
        simp only [List.getElem?_toArray, List.getElem?_cons_succ, List.getElem?_cons_zero, Option.some.injEq] at ho
        subst ho
        intro K hK
        have HK := Lib.hid hK
        have HSH := Lib.hid HS
        clear hK HS
        obtain ⟨oa', osp', e', hrow2, _⟩ := ((S7.owns intE 2).mono (q := fun _ => True) (fun b _ => trivial)).row (fun b _ => trivial)
        rw [HLL.out] at e'
        obtain ⟨rfl, hcap⟩ : some ⟨gg, 0, none⟩ = oa' ∧ cap = th.length + 1 + osp' := by simpa using e'
        clear hcap e'
        have H7 := IH.out (th ++ [(k : Int)]) (by rw [HLL.out]; have := HM.out; omega) HTHK.out p (fun _ => True) r to_ co (some ⟨gg, 0, none⟩) ct sp cap w7 (fun h => by cases h) (HR.out.kept S7.bel) (HC.out.kept S7.bel) hrow2
        rw [HLL.out, HBV.out] at H7
        go_simp
        go_at_call 32
        refine (S7.quiet H7).mono ?_
        rintro e w8 ⟨rfl, z8, S8⟩
        have z8 : w7.heap.size ≤ w8.heap.size := z8
        dsimp only
        refine HK.out _ _ (fun _ => And.intro (And.intro (S8.two 0).1.1 (S8.two 0).2.1) (S8.one 1).1) ?_
        have HS := And.intro (And.intro (S8.two 0).1.1 (S8.two 0).2.1) (S8.one 1).1
        try simp only [Act.put, List.setIfInBounds_toArray, List.set_cons_zero, List.set_cons_succ]
        refine wpG.one (i := 8) (by kernel_rfl) ?_
        intro oi ho
        simp only [List.getElem?_toArray, List.getElem?_cons_succ, List.getElem?_cons_zero, Option.some.injEq] at ho
        subst ho
        intro K hK
        have HK := Lib.hid hK
        have HSH := Lib.hid HS
        clear hK HS
        go_simp
        refine HK.out _ _ (fun _ => And.intro (And.intro (S8.two 0).1.1 (S8.two 0).2.1) (S8.one 1).1) ?_
        have HS := And.intro (And.intro (S8.two 0).1.1 (S8.two 0).2.1) (S8.one 1).1
        try simp only [Act.put, List.setIfInBounds_toArray, List.set_cons_zero, List.set_cons_succ]
        refine wpG.done (by kernel_rfl) ?_
        cases B
        · have HF := Lib.hid (show allF s tb fs (m + 1) th = false by
            rw [allF, Bool.eq_false_iff]
            intro e
            have := List.all_eq_true.1 e k (List.mem_range.2 HKS.out)
            rw [HBV.out] at this
            exact Bool.noConfusion this)
          have SE := Lib.hid S8.bel
          clear S8 S7 SD
          go_wp2_with fail
          go_ret
          exact ⟨ret_bool HF.out.symm, SE.out⟩
        · have HN := Lib.hid (show ∀ (j : Nat), j < k + 1 → allF s tb fs m (th ++ [(j : Int)]) = true from fun j hj => by
            rcases Nat.lt_succ_iff_lt_or_eq.1 hj with h | rfl
            · exact HNO.out j h
            · exact HBV.out)
          have z9 : bx + 2 ≤ w8.heap.size := by have := HZ3.out; omega
          have S5 := S8.pick [0, 1]
          clear S8 S7 SD
          go_wp2_with fail
          go_roundw
          case rel => exact ⟨k + 1, by omega, by go_num, HN.out, z9, S5⟩
          case measure => simp [intOf] <;> omega
      · obtain rfl : k = s := by omega
        have HF := Lib.hid (show allF k tb fs (m + 1) th = true by
          rw [allF, List.all_eq_true]
          exact fun j hj => HNO.out j (List.mem_range.1 hj))
        have SE := Lib.hid S.bel
        clear S
        go_wp2_with fail
        go_ret
        exact ⟨ret_bool HF.out.symm, SE.out⟩
end Go.Proofs.Yteekoclfpehnpaa
