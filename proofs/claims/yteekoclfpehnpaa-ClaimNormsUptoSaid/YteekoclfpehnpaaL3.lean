/-
  Walks: the law ClaimNorms.
-/
import Derived.Test.YteekoclfpehnpaaProg
import Derived.Test.YteekoclfpehnpaaE4
import Derived.Test.YteekoclfpehnpaaE5
import Derived.Test.YteekoclfpehnpaaE8
import Derived.Test.YteekoclfpehnpaaM4
import Derived.Test.YteekoclfpehnpaaG1
namespace Go.Proofs.Yteekoclfpehnpaa
open Go.RowKit Go.Shelf Go.Maps
set_option linter.unusedVariables false
set_option maxHeartbeats 400000

theorem vastC_small {c : List Fc} (h : vastC c = false) : (treesF c).length ≤ 40 ∧ ∀ (i : Nat) t, (treesF c)[i]? = some t → t.size ≤ 200 := by
  unfold vastC at h
  rw [Bool.or_eq_false_iff] at h
  refine ⟨by have := of_decide_eq_false h.1; omega, fun i t ht => ?_⟩
  have h2 := (List.any_eq_false.1 h.2) t (List.mem_of_getElem? ht)
  unfold bigT at h2
  have h3 := of_decide_eq_false (by simpa using h2 : decide ((200 : Int) < t.size) = false)
  omega

set_option maxRecDepth 100000 in
set_option maxHeartbeats 4000000 in
theorem claimNorms3 (fs : List Fc) (p : Nat → Prop) (ao : Option Addr) (sp : Nat) (w : World) (h : factE.Row p w ao fs) (hp : ∀ b, p b → b < w.heap.size) (hml : fs.length ≤ maxLen) (hn : fs.length ≤ 1000000) (hs : ∀ (i : Nat) t, (treesF fs)[i]? = some t → t.size ≤ 2000000) :
    Calls Try.prog 3 #[.agg #[.slice ao fs.length (fs.length + sp)]] w fun e w' => e = .returned (.bool true) ∧ Below w.heap.size w w' := by
  have HR := Lib.hid h; have HP := Lib.hid hp; have HS := Lib.hid hs
  obtain ⟨bx, hbx⟩ : ∃ b, b = w.heap.size := ⟨_, rfl⟩
  have S1 := ((St.start w).box hbx.symm #[.slice ao fs.length (fs.length + sp)] 24).box (b := bx + 1) (by simp [hbx]) #[.slice ao fs.length (fs.length + sp)] 24
  have hsz1 : ((w.alloc (.cells #[.slice ao fs.length (fs.length + sp)] 24)).alloc (.cells #[.slice ao fs.length (fs.length + sp)] 24)).heap.size = bx + 2 := by simp [hbx]
  clear h hp hs
  go_enter Try.func3, Try.ntmps3
  go_wp2_with fail
  rw [← hbx]
  refine S1.gen (z := bx + 2) (by omega) ?_
  intro w3 z3 S
  have HBX := Lib.hid hbx
  clear S1 hbx hsz1
  have hrow : claimE.Row (fun b => b < w3.heap.size) w3 (some ⟨bx + 1, 0, none⟩) [fs] := fun i x hx => by
    match i, hx with
    | 0, hx =>
      simp at hx; subst hx
      refine ⟨bx + 1, 0, [.slice ao fs.length (fs.length + sp)], rfl, by omega, fun j u hu => ?_, ao, sp, rfl, ((HR.out.kept S.bel).mono (fun b h _ => by have := HP.out b h; have := HBX.out; omega)), hml⟩
      match j, hu with
      | 0, hu => simp at hu; subst hu; exact (S.one 1).1
  refine (S.quiet (vastLore15 0 [fs] (fun b => b < w3.heap.size) none (some ⟨bx + 1, 0, none⟩) 0 1 w3 hrow (fun b h => h) (by omega) (by simp) (fun i c hc => by
      match i, hc with
      | 0, hc => simp at hc; subst hc; exact hn) (fun i c hc => by
      match i, hc with
      | 0, hc => simp at hc; subst hc; exact HS.out))).mono ?_
  rintro e w4 ⟨rfl, z4, S4⟩
  clear S hrow
  cases hv : vastL 0 [fs] with
  | true =>
    have SE := Lib.hid S4.bel
    clear S4
    go_wp2_with fail
    go_ret
    exact ⟨rfl, SE.out⟩
  | false =>
    have HV := Lib.hid (vastC_small (c := fs) (by
      unfold vastL at hv
      rw [Bool.or_eq_false_iff] at hv
      have := List.any_eq_false.1 hv.2 fs (by simp)
      simpa using this))
    have hn20 : fs.length ≤ 20 := by have h1 := HV.out.1; rw [treesF_length] at h1; omega
    clear hv
    obtain ⟨x0, _⟩ := S4.one 0
    go_wp2_with fail
    refine (S4.quiet (form16 fs p ao sp w4 (HR.out.kept S4.bel) hn (fun b hb => by have := HP.out b hb; have := HBX.out; omega) (fun i t ht => by have := HV.out.2 i t ht; omega))).mono ?_
    rintro e w5 ⟨rfl, z5, S5⟩
    clear S4 x0
    obtain ⟨c, hc⟩ : ∃ c, c = formF fs := ⟨_, rfl⟩
    rw [← hc]
    have HC := Lib.hid hc
    clear hc
    obtain ⟨x0, _⟩ := S5.one 0
    go_wp2_with fail
    refine (norm17 fs p w5 ao sp (fun b hb => by have := HP.out b hb; have := HBX.out; omega) (HR.out.kept S5.bel) hn).mono ?_
    rintro e w6 ⟨ro, rsp, rfl, hrow, hb6⟩
    rw [← HC.out]
    obtain ⟨G, hG⟩ : ∃ G, G = normO fs := ⟨_, rfl⟩
    rw [← hG] at hrow
    rw [← hG]
    have HG := Lib.hid hG
    have S6 := ((S5.step hb6).add (.rowE factE (fun c => w5.heap.size ≤ c) ro G) hrow)
    have z6 := hb6.size
    clear S5 hrow hb6 x0 hG
    obtain ⟨by_, hby⟩ : ∃ b, b = w6.heap.size := ⟨_, rfl⟩
    have S7 := (S6.box hby.symm #[.slice ro G.length (G.length + rsp)] 24).box (b := by_ + 1) (by simp [hby]) #[.int .i64 c, .int .i64 0] 32
    have hzz : by_ + 2 ≤ ((w6.alloc (.cells #[.slice ro G.length (G.length + rsp)] 24)).alloc (.cells #[.int .i64 c, .int .i64 0] 32)).heap.size := by simp [hby]
    clear S6
    go_wp2_with fail
    rw [← hby]
    refine S7.genC (z := by_ + 2) hzz ?_
    intro w7 z7 S
    have HBY := Lib.hid (show w5.heap.size ≤ by_ by omega)
    clear S7 hby hzz
    obtain ⟨x0, _⟩ := S.one 0
    obtain ⟨⟨y0, _⟩, y1, _⟩ := S.two 4
    have CA := Lib.hid (fun d os => Calls.regrown_of (form18 fs p ao sp (Go.Sort.grow (redrawn w7 d) os) (HR.out.kept (S.regrown d os).bel) hn))
    have CB := Lib.hid (fun d os => Calls.regrown_of (fault20 c 0 (Go.Sort.grow (redrawn w7 d) os)))
    rw [← HC.out] at CA
    have r0 := cell_regrown x0; have r1 := cell_regrown y0; have r2 := cell_regrown y1
    clear x0 y0 y1
    refine wp_region_quiet_below (by kernel_rfl) (by kernel_rfl) ?_
    repeat (go_big_quiet_step (first | exact CA.out _ _ | exact CB.out _ _))
    refine wpQuiet_nil ?_
    intro _ hw'
    obtain ⟨⟨dq, osq⟩, hw''⟩ := hw'
    subst hw''
    refine (S.regrown dq osq).genX (z := by_ + 2) (Nat.le_trans z7 (below_regrown w7 dq osq).size) ?_
    intro w8 z8 S9
    clear r0 r1 r2 CA CB S
    by_cases h0 : c = 0
    · have hcb : (c != 0) = false := by simp [h0]
      have HGN := Lib.hid (show G = normF fs by rw [HG.out]; unfold normO; rw [if_pos (by rw [← HC.out]; exact h0)])
      have hgl : G.length ≤ 1000000 := by rw [HGN.out]; simp [normF]; omega
      have hnl : (normF fs).length ≤ 1000000 := by simp [normF]; omega
      clear h0
      go_wp2_with fail
      have hs9 : w8.drew.heap.size = w8.heap.size := rfl
      have S9 := S9.drew
      refine wpG_region 4 (fun W => W.cell? ⟨by_, 0, none⟩ = some (.slice ro G.length (G.length + rsp)) ∧ W.cell? ⟨bx, 0, none⟩ = some (.slice ao fs.length (fs.length + sp))) (by kernel_rfl) ?_
      have HS := And.intro (S9.one 3).1 (S9.one 0).1
      refine wpG.take (i := 0) (by kernel_rfl) (by kernel_rfl) (by kernel_rfl) (by kernel_rfl) (by kernel_rfl) HS ?_
      intro oi ho
      simp only [List.getElem?_toArray, List.getElem?_cons_zero, Option.some.injEq] at ho
      subst ho
      refine ⟨?_, Or.inl ⟨by rfl, ?_⟩, fun _ _ _ h => h, ?_⟩
      rotate_left 1
      · intro W hW
        try dsimp only at hW
        go_simp
        try with_reducible rfl
      simp only [Act.put, List.setIfInBounds_toArray, List.set_cons_zero, List.set_cons_succ]
      refine wpG.take (i := 1) (by kernel_rfl) (by kernel_rfl) (by kernel_rfl) (by kernel_rfl) (by kernel_rfl) HS ?_
      intro oi ho
      simp only [List.getElem?_toArray, List.getElem?_cons_succ, List.getElem?_cons_zero, Option.some.injEq] at ho
      subst ho
      refine ⟨?_, Or.inl ⟨by rfl, ?_⟩, fun _ _ _ h => h, ?_⟩
      rotate_left 1
      · intro W hW
        try dsimp only at hW
        go_simp
        try with_reducible rfl
      simp only [Act.put, List.setIfInBounds_toArray, List.set_cons_zero, List.set_cons_succ]
      refine wpG.one (i := 2) (by kernel_rfl) ?_
      intro oi ho
      simp only [List.getElem?_toArray, List.getElem?_cons_succ, List.getElem?_cons_zero, Option.some.injEq] at ho
      subst ho
      intro K hK
      have HK := Lib.hid hK
      have HSH := Lib.hid HS
      clear hK HS
      go_simp
      go_at_call 21
      refine (norm21 fs p ao sp _ (HR.out.kept S9.bel) (by omega) (fun b hb => by have := HP.out b hb; have := HBX.out; have := HBY.out; omega) (fun i t ht => by have := HV.out.2 i t ht; omega)).mono ?_
      rintro e wa ⟨no, nsp, rfl, hnr, hba⟩
      have SA := (S9.step hba).add (.rowE factE (fun c => w8.drew.heap.size ≤ c) no (normF fs)) hnr
      clear hnr hba
      dsimp only
      refine HK.out _ _ (fun _ => ⟨(SA.one 3).1, (SA.one 0).1⟩) ?_
      have HS := And.intro (SA.one 3).1 (SA.one 0).1
      try simp only [Act.put, List.setIfInBounds_toArray, List.set_cons_zero, List.set_cons_succ]
      refine wpG.one (i := 3) (by kernel_rfl) ?_
      intro oi ho
      simp only [List.getElem?_toArray, List.getElem?_cons_succ, List.getElem?_cons_zero, Option.some.injEq] at ho
      subst ho
      intro K hK
      have HK := Lib.hid hK
      have HSH := Lib.hid HS
      clear hK HS
      go_simp
      go_at_call 20
      refine (SA.quiet (sameClaim20 G (normF fs) _ _ ro no _ _ wa (SA.rowE factE 2) (SA.rowE factE 5) (by omega) (by omega))).mono ?_
      rintro e wc ⟨rfl, zc, SC⟩
      dsimp only
      refine HK.out _ _ (fun _ => ⟨(SC.one 3).1, (SC.one 0).1⟩) ?_
      have HS := And.intro (SC.one 3).1 (SC.one 0).1
      try simp only [Act.put, List.setIfInBounds_toArray, List.set_cons_zero, List.set_cons_succ]
      refine wpG.one (i := 4) (by kernel_rfl) ?_
      intro oi ho
      simp only [List.getElem?_toArray, List.getElem?_cons_succ, List.getElem?_cons_zero, Option.some.injEq] at ho
      subst ho
      intro K hK
      have HK := Lib.hid hK
      have HSH := Lib.hid HS
      clear hK HS
      go_simp
      refine HK.out _ _ (fun h => absurd rfl h) ?_
      try simp only [Act.put, List.setIfInBounds_toArray, List.set_cons_zero, List.set_cons_succ]
      refine wpG.done (by kernel_rfl) ?_
      have HE := Lib.hid (show decide (G = normF fs) = true from decide_eq_true HGN.out)
      rw [HE.out]
      have SE := Lib.hid SC.bel
      clear SC SA S9 HS
      go_wp2_with fail
      go_ret
      exact ⟨rfl, SE.out⟩
    · have hcb : (c != 0) = true := by simp [h0]
      have hgl : G.length = 0 := by rw [HG.out]; unfold normO; rw [if_neg (by rw [← HC.out]; exact h0)]; rfl
      have SE := Lib.hid S9.bel
      obtain ⟨y0, _⟩ := S9.one 3
      rw [hgl] at y0
      clear h0 S9 hgl
      go_wp2_with fail
      go_ret
      exact ⟨rfl, SE.out⟩
end Go.Proofs.Yteekoclfpehnpaa
