/-
  Walk: the search for the best order.
-/
import Derived.Test.YtacaakcpkgipfaaProg
import Derived.Test.YtacaakcpkgipfaaTi8
import Derived.RegionTactic
import Derived.BigQuiet
import Derived.Deep.DeepCutAuto
import Derived.Deep.CutBlock
namespace Go.Proofs.Ytacaakcpkgipfaa
open Go.RowKit Go.Shelf
set_option linter.unusedVariables false
set_option maxHeartbeats 400000

def keepW (w w' : World) (bp : Nat) (wv : Value) : Prop := ∀ b, b < w.heap.size → b ≠ bp → wv.ownBlock ≠ some b → w'.heap[b]? = w.heap[b]?
def offP (ps : Nat → Prop) (bp : Nat) (wv : Value) (w : World) : Prop := wv.ownBlock ≠ some bp ∧ ∀ b, ps b → b < w.heap.size ∧ b ≠ bp ∧ wv.ownBlock ≠ some b
theorem keepW.below {w w' : World} {bp : Nat} {wv : Value} (h : Below w.heap.size w w') : keepW w w' bp wv := fun b hb _ _ => h.block b hb
theorem keepW.trans {w w1 w2 : World} {bp : Nat} {wv wv1 : Value} (h : keepW w w1 bp wv) (h2 : keepW w1 w2 bp wv1) (hs : w.heap.size ≤ w1.heap.size) (ho : ∀ b, wv1.ownBlock = some b → wv.ownBlock = some b ∨ w.heap.size ≤ b) : keepW w w2 bp wv := fun b hb h3 h4 =>
  (h2 b (by omega) h3 (fun e => by rcases ho b e with h5 | h5; exact h4 h5; omega)).trans (h b hb h3 h4)
theorem offP.more {ps : Nat → Prop} {bp : Nat} {wv : Value} {w w' : World} (h : offP ps bp wv w) (hs : w.heap.size ≤ w'.heap.size) : offP ps bp wv w' := ⟨h.1, fun b hb => ⟨by have := (h.2 b hb).1; omega, (h.2 b hb).2⟩⟩
theorem St.setAt {w0 w : World} {l : List Fct} (S : St w0 w l) (i j : Nat) {b : Nat} {cs : Array Value} {T : TypeId} (hi : Fct.at l i = Fct.box b cs T) (u : Value) (h0 : w0.heap.size ≤ b) (hoff : offs b i l) : St w0 (w.setCell ⟨b, j, none⟩ u) (fset l i (.box b (cs.setIfInBounds j u) T)) :=
  S.put i hi h0 hoff (fun h => h.setCell (p := ⟨b, j, none⟩) h0 u) (fun c hc => Below.heap_setCell _ _ _ _ hc) (fun h => by simp [World.setCell, Array.getElem?_modify, h])
theorem flat_take {β : Type} : ∀ (css : List (List β)) (n : Nat), (∀ c ∈ css, c.length = 3) → (css.take n).flatten = css.flatten.take (n * 3)
  | [], n, _ => by simp
  | c :: r, 0, _ => by simp
  | c :: r, n + 1, h => by
    have hc := h c (List.mem_cons_self ..)
    rw [List.take_succ_cons, List.flatten_cons, List.flatten_cons, flat_take r n (fun d hd => h d (List.mem_cons_of_mem _ hd)), List.take_append, List.take_of_length_le (l := c) (by omega), hc, show (n + 1) * 3 - 3 = n * 3 by omega]
theorem own_some {B : Nat} {p : Nat → Prop} {w : World} {o : Value} {xs : List Wt} {x : Wt} (h : waitE.Own p B w o (xs ++ [x])) : ∃ g c, o = .slice (some ⟨g, 0, none⟩) (xs.length + 1) c ∧ xs.length + 1 ≤ c ∧ waitE.Own p B w (.slice (some ⟨g, 0, none⟩) xs.length c) xs := by
  obtain ⟨css, hcl, ho, hk⟩ := h
  obtain ⟨h1, h2⟩ := ho
  rw [List.length_append, List.length_cons, List.length_nil] at h2 hcl h1
  rcases h2 with ⟨_, hn⟩ | ⟨g, cap, cur, rfl, hB, hh, hnc, hm, hsz, htk⟩
  · omega
  · have hl := Elt.lens (E := waitE) (by rw [List.length_append, List.length_cons, List.length_nil]; exact hcl) hk
    have hfl : ∀ (cs : List (List Value)), (∀ c ∈ cs, c.length = 3) → cs.flatten.length = cs.length * 3 := by
      intro cs
      induction cs with
      | nil => intro _; rfl
      | cons c r ih => intro hc; rw [List.flatten_cons, List.length_append, ih (fun d hd => hc d (List.mem_cons_of_mem _ hd)), hc c (List.mem_cons_self ..), List.length_cons]; omega
    have htf := flat_take css xs.length hl
    refine ⟨g, cap, rfl, hnc, css.take xs.length, by rw [List.length_take]; omega, ⟨by rw [hfl _ (fun c hc => hl c (List.mem_of_mem_take hc)), List.length_take, Nat.min_eq_left (by omega)]; rfl, .inr ⟨g, cap, cur, rfl, hB, hh, by omega, hm, hsz, ?_⟩⟩, fun i cs y e1 e2 => ?_⟩
    · rw [htf, ← htk, List.take_take]
      congr 1
      show xs.length * 3 = min (xs.length * 3) ((xs.length + 1) * 3)
      omega
    · have hi := (List.getElem?_eq_some_iff.1 e2).1
      rw [List.getElem?_take, if_pos hi] at e1
      have := hk i cs y e1 (by rw [List.getElem?_append_left hi]; exact e2)
      exact waitE.keep (fun b hb _ => ⟨rfl, hb.1, by simpa [Value.ownBlock] using hb.2⟩) this
theorem offs3 {B bp : Nat} {cs : Array Value} {T : TypeId} {wv : Value} {ws : List Wt} {ps : Nat → Prop} {so : Option Addr} {S : List Int} (h1 : wv.ownBlock ≠ some bp) (h2 : ¬ ps bp) : offs bp 0 [.box bp cs T, .owns waitE B (fun _ => False) wv ws, .rowE intE ps so S] := by
  simp only [offs, offAll, Fct.owns, Fct.rowE, and_true]
  exact ⟨fun e => e.elim h1 id, h2⟩
/-- what lies elsewhere has not turned since w -/
def Fct.keepF (w : World) (bp : Nat) (wv : Value) : Fct :=
  ⟨fun b => b < w.heap.size ∧ b ≠ bp ∧ wv.ownBlock ≠ some b, fun W => keepW w W bp wv, fun W W' h ht b h1 h2 h3 => (h b ⟨h1, h2, h3⟩ (by
    have e := ht b h1 h2 h3
    rw [Array.getElem?_eq_getElem h1] at e
    exact (Array.getElem?_eq_some_iff.1 e).1)).trans (ht b h1 h2 h3)⟩
theorem St.keepF {w0 W : World} {l : List Fct} (S : St w0 W l) (i : Nat) {w : World} {bp : Nat} {wv : Value} (h : Fct.at l i = Fct.keepF w bp wv := by rfl) : keepW w W bp wv := by
  have := S.2 i
  rw [h] at this; exact this
def SRAt (js : List Jb) (ws : List Wt) (x y : Wt) (f : Bool) (l : Int) (S : List Int) (k : Nat) (f1 : Bool) (l1 : Int) (S1 : List Int) : Prop :=
  (k = 0 ∧ f1 = f ∧ l1 = l ∧ S1 = S) ∨ (k = 1 ∧ SRel js (ws ++ [x]) f l S f1 l1 S1) ∨ (k = 2 ∧ SRel js ws f l S f1 l1 S1)
theorem okW.snoc {n : Nat} {ws : List Wt} {x : Wt} (h : okW n ws) (h1 : x.a < n) (h2 : x.b < n) (h3 : -4 ≤ x.by_) (h4 : x.by_ ≤ 4) : okW n (ws ++ [x]) := fun i hi => by
  by_cases hlt : i < ws.length
  · rw [List.getElem_append_left hlt]; exact h i hlt
  · rw [List.getElem_append_right (by omega)]
    simp only [List.getElem_singleton]
    exact ⟨h1, h2, h3, h4⟩
def SrchP (w0 : World) (js : List Jb) (jo : Option Addr) (jc B bp : Nat) (wv : Value) (ws : List Wt) (f : Bool) (l : Int) (S : List Int) (w : World) (e : Ending) (w' : World) : Prop :=
  (∃ v, e = .returned v) ∧ ∃ (wv' : Value) (f' : Bool) (l' : Int) (so' : Option Addr) (S' : List Int) (sc' : Nat) (ps' : Nat → Prop),
    St w0 w' [.box bp #[.slice jo js.length jc, wv', .bool f', .int .i64 l', .slice so' S'.length (S'.length + sc')] 55, .owns waitE B (fun _ => False) (wv') (ws), .rowE intE ps' so' S'] ∧ SRel js ws f l S f' l' S' ∧ okS S' ∧ (f' = true → S'.length = js.length) ∧ offP ps' bp wv' w' ∧ keepW w w' bp wv ∧ w.heap.size ≤ w'.heap.size ∧ (∀ b, wv'.ownBlock = some b → wv.ownBlock = some b ∨ w.heap.size ≤ b)
theorem SrchP.same {w0 : World} {js : List Jb} {jo so : Option Addr} {jc B bp sc : Nat} {wv : Value} {ws : List Wt} {f : Bool} {l : Int} {S : List Int} {ps : Nat → Prop} {w w' : World} {v : Value} (h : St w0 w' [.box bp #[.slice jo js.length jc, wv, .bool f, .int .i64 l, .slice so S.length (S.length + sc)] 55, .owns waitE B (fun _ => False) (wv) (ws), .rowE intE ps so S]) (hr : SRel js ws f l S f l S) (hs : okS S) (hl : f = true → S.length = js.length) (ho : offP ps bp wv w) (hb : Below w.heap.size w w') :
    SrchP w0 js jo jc B bp wv ws f l S w (.returned v) w' :=
  ⟨⟨v, rfl⟩, wv, f, l, so, S, sc, ps, h, hr, hs, hl, ho.more hb.size, keepW.below hb, hb.size, fun b h => .inl h⟩
theorem froms_inW {js : List Jb} {ws : List Wt} (h : okW js.length ws) : inW (froms js).length ws := by rw [froms_length]; exact h.inW

set_option maxRecDepth 100000 in
set_option maxHeartbeats 8000000 in
theorem search16 (js : List Jb) (jo : Option Addr) (jc B bp : Nat) (p : Nat → Prop) (w0 : World) (hB : w0.heap.size ≤ B) (hbp : w0.heap.size ≤ bp) (hBp : B ≤ bp) (hj : jobE.Row p w0 jo js) (hoj : okJ js) (hjn : js.length ≤ 3) (hjc : js.length ≤ jc) :
    ∀ (m : Nat) (ws : List Wt) (wv : Value) (f : Bool) (l : Int) (so : Option Addr) (S : List Int) (sc : Nat) (ps : Nat → Prop) (w : World), openN js ws js.length < m → ws.length + openN js ws js.length ≤ 12 → okW js.length ws → okS S → (f = true → S.length = js.length) →
      St w0 w [.box bp #[.slice jo js.length jc, wv, .bool f, .int .i64 l, .slice so S.length (S.length + sc)] 55, .owns waitE B (fun _ => False) (wv) (ws), .rowE intE ps so S] → offP ps bp wv w → Calls Try.prog 16 #[.pointer (some ⟨bp, 0, none⟩)] w (SrchP w0 js jo jc B bp wv ws f l S w) := by
  have HJ := Lib.hid hj; have HOJ := Lib.hid hoj
  clear hj hoj
  intro m
  induction m with
  | zero => intro ws wv f l so S sc ps w h; omega
  | succ m ih =>
  intro ws wv f l so S sc ps w hm hlen how hos hfl hS hoff
  have IH := Lib.hid ih; have HOW := Lib.hid how; have HOS := Lib.hid hos; have HFL := Lib.hid hfl; have HOF := Lib.hid hoff; have HM := Lib.hid (And.intro hm hlen)
  have hji : (js.length : Int) ≤ 3 := by omega
  obtain ⟨wo, wsp, rfl, hrow, _⟩ := (show waitE.Own (fun b => B ≤ b) B w wv ws from Elt.Own.mono (p := fun _ => False) (hS.owns waitE 1) (fun b h => False.elim h)).row (fun b h => h)
  have HWR := Lib.hid hrow
  have hwn : ws.length ≤ 30 := by omega
  clear ih how hos hfl hoff hm hlen hrow
  have x0 := (hS.cell 0 0 rfl).1
  have x1 := (hS.cell 0 1 rfl).1
  have HER := Lib.hid (earliest29 js ws p (fun b => B ≤ b) bp jo wo jc (ws.length + wsp) w x0 x1 (HJ.out.kept hS.bel) HWR.out HOJ.out HOW.out hjn hwn)
  have HBL := Lib.hid (hS.lt 0)
  have HS := Lib.hid hS
  clear x0 x1 hS
  go_enter Try.func16, Try.ntmps16
  go_wp2_with fail
  refine HER.out.mono ?_
  rintro e w1 ⟨hb1, hcase⟩
  have S1 := HS.out.step hb1
  have HB1 := Lib.hid hb1
  rcases hcase with ⟨o, ro, rsp, heq, rfl, hro, hoo, hol⟩ | ⟨heq, rfl⟩
  case inr =>
    have HE := Lib.hid heq
    have qa := cell_regrown (S1.cell 0 2 rfl).1; have qb := cell_regrown (S1.cell 0 3 rfl).1; have qc := cell_regrown (S1.cell 0 0 rfl).1; have qd := cell_regrown (S1.cell 0 1 rfl).1
    clear heq hb1
    go_wp2_with fail
    refine wp_region_quiet_below (by kernel_rfl) (by kernel_rfl) ?_
    repeat (go_big_quiet_step (fail))
    refine wpQuiet_nil ?_
    intro _ hw'
    obtain ⟨⟨dq, osq⟩, hw''⟩ := hw'
    subst hw''
    have HBQ := Lib.hid (below_regrown w1 dq osq)
    clear qa qb qc qd
    have S2 := Lib.hid (S1.regrown dq osq)
    clear S1
    go_wp2_with fail
    refine bodyPost_ret (v := .tuple #[]) (by simp [results, Try.results16, go_sem]) rfl ?_
    exact SrchP.same S2.out (SRel.none (earliestF_none (froms_inW HOW.out) HE.out)) HOS.out HFL.out HOF.out (Below.step HB1.out HBQ.out)
  case inl =>
  have HLE := Lib.hid (earliestF_some (froms_inW HOW.out) heq)
  have HRO := Lib.hid hro; have HOO := Lib.hid hoo
  have HOL := Lib.hid hol
  have hoi : (o.length : Int) = (js.length : Int) := by rw [hol]
  clear heq hro hoo hb1 hoi
  have qa := cell_regrown (S1.cell 0 2 rfl).1; have qb := cell_regrown (S1.cell 0 3 rfl).1; have qc := cell_regrown (S1.cell 0 0 rfl).1; have qd := cell_regrown (S1.cell 0 1 rfl).1
  have CN := Lib.hid (fun d os => Calls.regrown_of (makespan30 js o p (fun b => w.heap.size ≤ b) bp jo ro jc (o.length + rsp) (Go.Sort.grow (redrawn w1 d) os) (Below.cellOf (below_regrown w1 d os) (S1.cell 0 0 rfl).1) (HJ.out.kept (Below.step S1.bel (below_regrown w1 d os))) (HRO.out.kept (below_regrown w1 d os)) HOJ.out HOO.out hjn HOL.out))
  obtain ⟨SP, hSP⟩ : ∃ z, z = span js o := ⟨_, rfl⟩
  have HSP := Lib.hid hSP
  rw [← hSP] at CN
  clear hSP hol
  go_upto_region 1 with fail
  go_cut [30] (fun t30 W => t30 = .bool (decide (f = true ∧ l ≤ SP)) ∧ Below w1.heap.size w1 W)
  case first =>
    cases f with
    | false =>
      have HD := Lib.hid (show false = decide (false = true ∧ l ≤ SP) from (decide_eq_false (fun h => by cases h.1)).symm)
      refine wp_region_quiet_below (by kernel_rfl) (by kernel_rfl) ?_
      repeat (go_big_quiet_step (exact CN.out _ _))
      refine wpQuiet_nil ?_
      intro _ hw'
      obtain ⟨⟨dq, osq⟩, hw''⟩ := hw'
      subst hw''
      have HBQ := Lib.hid (below_regrown w1 dq osq)
      clear qa qb qc qd
      clear S1
      go_wp2_with fail
      go_meet
      case rel => exact ⟨congrArg Value.bool HD.out, HBQ.out⟩
    | true =>
      by_cases hle : l ≤ SP
      · have HD := Lib.hid (show true = decide (true = true ∧ l ≤ SP) from (decide_eq_true ⟨rfl, hle⟩).symm)
        refine wp_region_quiet_below (by kernel_rfl) (by kernel_rfl) ?_
        repeat (go_big_quiet_step (exact CN.out _ _))
        refine wpQuiet_nil ?_
        intro _ hw'
        obtain ⟨⟨dq, osq⟩, hw''⟩ := hw'
        subst hw''
        have HBQ := Lib.hid (below_regrown w1 dq osq)
        clear qa qb qc qd
        clear S1
        go_wp2_with fail
        go_meet
        case rel => exact ⟨congrArg Value.bool HD.out, HBQ.out⟩
      · have HD := Lib.hid (show false = decide (true = true ∧ l ≤ SP) from (decide_eq_false (fun h => hle h.2)).symm)
        refine wp_region_quiet_below (by kernel_rfl) (by kernel_rfl) ?_
        repeat (go_big_quiet_step (exact CN.out _ _))
        refine wpQuiet_nil ?_
        intro _ hw'
        obtain ⟨⟨dq, osq⟩, hw''⟩ := hw'
        subst hw''
        have HBQ := Lib.hid (below_regrown w1 dq osq)
        clear qa qb qc qd
        clear S1
        go_wp2_with fail
        go_meet
        case rel => exact ⟨congrArg Value.bool HD.out, HBQ.out⟩
  case rest =>
  obtain ⟨ht30, hbw⟩ := hcut
  subst ht30
  clear qa qb qc qd CN
  have S2 := S1.step hbw
  have HBW := Lib.hid (Below.step HB1.out hbw)
  have HRW := Lib.hid (HRO.out.kept hbw)
  clear S1 hbw HRO
  have HWS := Lib.hid (show ∀ s, Feas (froms js) ws s → ∀ i, i < js.length → gT o i ≤ gT s i from fun s hs i hi => HLE.out.2 s hs i (by rw [froms_length]; exact hi))
  by_cases hworse : f = true ∧ l ≤ SP
  · rw [decide_eq_true hworse]
    have HR := Lib.hid (SRel.worse (js := js) (ws := ws) (f := f) (l := l) (S := S) hworse.1 HWS.out (by rw [← HSP.out]; exact hworse.2))
    have SB := Lib.hid S2
    clear S2 hworse
    go_wp2_with fail
    refine bodyPost_ret (v := .tuple #[]) (by simp [results, Try.results16, go_sem]) rfl ?_
    exact SrchP.same SB.out HR.out HOS.out HFL.out HOF.out HBW.out
  rw [decide_eq_false hworse]
  have HNW := Lib.hid (show f = true → span js o < l from fun h => by have : ¬ l ≤ SP := fun h2 => hworse ⟨h, h2⟩; rw [← HSP.out]; omega)
  clear hworse
  have HOV := Lib.hid (overlap31 js o p (fun b => w.heap.size ≤ b) bp jo ro jc (o.length + rsp) wc (S2.cell 0 0 rfl).1 (HJ.out.kept S2.bel) HRW.out HOJ.out HOO.out hjn hjc HOL.out)
  go_wp2_with fail
  refine HOV.out.mono ?_
  rintro e w3 hov
  rcases hov with ⟨K, I, rfl, hki, hin, hcl, hb3⟩ | ⟨rfl, hno, hb3⟩
  case inr =>
    have HV := Lib.hid (show Valid js ws o from ⟨HLE.out.1, fun i k h1 h2 => hno i k h1 h2⟩)
    have HR := Lib.hid (SRel.best (f := f) (l := l) (S := S) HV.out HWS.out HNW.out)
    have S3 := S2.step hb3
    have HR3 := Lib.hid (HRW.out.kept hb3)
    have HB3 := Lib.hid (Below.step HBW.out hb3)
    have HMK := Lib.hid (makespan30 js o p (fun b => w.heap.size ≤ b) bp jo ro jc (o.length + rsp) w3 (S3.cell 0 0 rfl).1 (HJ.out.kept S3.bel) HR3.out HOJ.out HOO.out hjn HOL.out)
    clear S2 hno hb3
    go_wp2_with fail
    refine HMK.out.mono ?_
    rintro e w4 ⟨rfl, hb4⟩
    have HR4 := Lib.hid (HR3.out.kept hb4)
    have HB4 := Lib.hid (Below.step HB3.out hb4)
    have S4 : St w0 w4 [.box bp #[.slice jo js.length jc, .slice wo ws.length (ws.length + wsp), .bool f, .int .i64 l, .slice so S.length (S.length + sc)] 55, .owns waitE B (fun _ => False) (.slice wo ws.length (ws.length + wsp)) (ws), .rowE intE (fun b => w.heap.size ≤ b ∧ b < w4.heap.size) ro o] := ((S3.step hb4).pick [0, 1]).add (.rowE intE (fun b => w.heap.size ≤ b ∧ b < w4.heap.size) ro o) (HR4.out.mono (fun b h1 h2 => ⟨h1, h2⟩))
    clear S3 hb4
    obtain ⟨y2, y3⟩ := S4.cell 0 2 rfl
    obtain ⟨y4, y5⟩ := S4.cell 0 3 rfl
    obtain ⟨y6, y7⟩ := S4.cell 0 4 rfl
    have hlp := S4.lt 0
    have HO3 := Lib.hid (show ¬ (w.heap.size ≤ bp ∧ bp < w4.heap.size) from fun h => by have := HBL.out; omega)
    have SG := Lib.hid (((S4.setAt 0 2 rfl (.bool true) hbp (offs3 HOF.out.1 HO3.out)).setAt 0 3 rfl (.int .i64 (span js o)) hbp (offs3 HOF.out.1 HO3.out)).setAt 0 4 rfl (.slice ro o.length (o.length + rsp)) hbp (offs3 HOF.out.1 HO3.out))
    clear S4
    go_wp2_with fail
    refine bodyPost_ret (v := .tuple #[]) (by simp [results, Try.results16, go_sem]) rfl ?_
    refine ⟨⟨_, rfl⟩, _, true, span js o, ro, o, rsp, _, SG.out, HR.out, HOO.out, fun _ => HOL.out, ⟨HOF.out.1, fun b hb => ⟨by simp; exact hb.2, fun e => by subst e; exact HO3.out hb, fun e => by have h1 := (HS.out.ownlt waitE 1 rfl b e).2; have h2 := hb.1; omega⟩⟩, fun b h1 h2 h3 => ?_, by have := HB4.out.size; simp; omega, fun b h => .inl h⟩
    exact (((Below.heap_setCell _ _ _ _ (by show b ≠ bp; exact h2)).trans (Below.heap_setCell _ _ _ _ (by show b ≠ bp; exact h2))).trans (Below.heap_setCell _ _ _ _ (by show b ≠ bp; exact h2))).trans (HB4.out.block b h1)
  case inl =>
  obtain ⟨hop0, hop1⟩ := open_less HLE.out.1 hki hin hcl
  have hkn : K < js.length := by omega
  obtain ⟨jb, joff, hjo, _, f0, _, _⟩ := HJ.out.job hkn
  obtain ⟨jb', joff', he, _, f1, _, _⟩ := HJ.out.job hin
  rw [hjo] at he
  simp only [Option.some.injEq, Addr.mk.injEq, and_true] at he
  obtain ⟨rfl, rfl⟩ := he
  obtain ⟨k1, k2, _, _, _, _⟩ := HOJ.out K hkn
  obtain ⟨k3, k4, _, _, _, _⟩ := HOJ.out I hin
  have HLK := Lib.hid (gJ_get hkn); have HLI := Lib.hid (gJ_get hin)
  obtain ⟨LK, hLK⟩ : ∃ z, z = js[K].long := ⟨_, rfl⟩
  obtain ⟨LI, hLI⟩ : ∃ z, z = js[I].long := ⟨_, rfl⟩
  have HW0 := Lib.hid (show (gJ js K).long = LK by rw [HLK.out, hLK])
  have HW1 := Lib.hid (show (gJ js I).long = LI by rw [HLI.out, hLI])
  rw [HW0.out] at hop0
  rw [HW1.out] at hop1
  rw [← hLK] at f0 k1 k2
  rw [← hLI] at f1 k3 k4
  have HOP := Lib.hid (And.intro hop0 hop1)
  have HRV := Lib.hid hcl.1
  have S3 := S2.step hb3
  have HB3 := Lib.hid (Below.step HBW.out hb3)
  have x0 := (S3.cell 0 0 rfl).1
  have g0 := Below.cellOf S3.bel f0
  have g1 := Below.cellOf S3.bel f1
  subst hjo
  have hkni : (K : Int) < (js.length : Int) := by omega
  have hini : (I : Int) < (js.length : Int) := by omega
  clear S2 hb3 hcl hop0 hop1 hLK hLI f0 f1 HOV HRW
  have HS0 := HS
  go_wp2_with fail
  have SD := S3.drew
  have FC := Lib.hid (fun W (hb : Below w3.heap.size w3 W) => (⟨Below.cellOf hb x0, Below.cellOf hb g0, Below.cellOf hb g1⟩ : (fun W => W.cell? ⟨bp, 0, none⟩ = some (.slice (some ⟨jb, joff, none⟩) js.length jc) ∧ W.cell? ⟨jb, joff + K * 3, none⟩ = some (.int .i64 LK) ∧ W.cell? ⟨jb, joff + I * 3, none⟩ = some (.int .i64 LI)) W))
  have HZ3 := Lib.hid (show w.heap.size ≤ w3.heap.size from HB3.out.size)
  have SH3 := Lib.hid S3
  clear S3 x0 g0 g1
  have HBA : Hid (Below w3.heap.size w3 (w3.drew.alloc (.cells #[.int .i64 (K : Int), .int .i64 (I : Int), .int .i64 LK, .int .i64 (I : Int), .int .i64 (K : Int), .int .i64 LI] 29))) := Lib.hid ((Below.refl _ w3).drew.alloc (Nat.le_refl _) _)
  refine wpH_region [] (fun W => W.cell? ⟨bp, 0, none⟩ = some (.slice (some ⟨jb, joff, none⟩) js.length jc) ∧ W.cell? ⟨jb, joff + K * 3, none⟩ = some (.int .i64 LK) ∧ W.cell? ⟨jb, joff + I * 3, none⟩ = some (.int .i64 LI)) (by kernel_rfl) ?_
  have HS := FC.out _ (Below.refl _ w3).drew
  refine wpH.take (i := 0) (by kernel_rfl) (by kernel_rfl) (by kernel_rfl) (by kernel_rfl) (by kernel_rfl) HS ?_
  intro oi ho
  simp only [List.getElem?_toArray, List.getElem?_cons_zero, Option.some.injEq] at ho
  subst ho
  refine ⟨?_, Or.inl ⟨by rfl, ?_⟩, fun _ _ _ h => h, ?_⟩
  rotate_left 1
  · intro W hW
    try dsimp only at hW
    go_simp
    try with_reducible rfl
  simp only [Act.put, List.setIfInBounds_toArray, List.set_cons_zero, List.set_cons_succ]
  refine wpH.take (i := 1) (by kernel_rfl) (by kernel_rfl) (by kernel_rfl) (by kernel_rfl) (by kernel_rfl) HS ?_
  intro oi ho
  simp only [List.getElem?_toArray, List.getElem?_cons_succ, List.getElem?_cons_zero, Option.some.injEq] at ho
  subst ho
  refine ⟨?_, Or.inl ⟨by rfl, ?_⟩, fun _ _ _ h => h, ?_⟩
  rotate_left 1
  · intro W hW
    try dsimp only at hW
    go_simp
    try with_reducible rfl
  simp only [Act.put, List.setIfInBounds_toArray, List.set_cons_zero, List.set_cons_succ]
  refine wpH.take (i := 2) (by kernel_rfl) (by kernel_rfl) (by kernel_rfl) (by kernel_rfl) (by kernel_rfl) HS ?_
  intro oi ho
  simp only [List.getElem?_toArray, List.getElem?_cons_succ, List.getElem?_cons_zero, Option.some.injEq] at ho
  subst ho
  refine ⟨?_, Or.inl ⟨by rfl, ?_⟩, fun _ _ _ h => h, ?_⟩
  rotate_left 1
  · intro W hW
    try dsimp only at hW
    go_simp
    try with_reducible rfl
  simp only [Act.put, List.setIfInBounds_toArray, List.set_cons_zero, List.set_cons_succ]
  refine wpH.take (i := 3) (by kernel_rfl) (by kernel_rfl) (by kernel_rfl) (by kernel_rfl) (by kernel_rfl) HS ?_
  intro oi ho
  simp only [List.getElem?_toArray, List.getElem?_cons_succ, List.getElem?_cons_zero, Option.some.injEq] at ho
  subst ho
  refine ⟨?_, Or.inl ⟨by rfl, ?_⟩, fun _ _ _ h => h, ?_⟩
  rotate_left 1
  · intro W hW
    try dsimp only at hW
    go_simp
    try with_reducible rfl
  simp only [Act.put, List.setIfInBounds_toArray, List.set_cons_zero, List.set_cons_succ]
  refine wpH.take (i := 4) (by kernel_rfl) (by kernel_rfl) (by kernel_rfl) (by kernel_rfl) (by kernel_rfl) HS ?_
  intro oi ho
  simp only [List.getElem?_toArray, List.getElem?_cons_succ, List.getElem?_cons_zero, Option.some.injEq] at ho
  subst ho
  refine ⟨?_, Or.inl ⟨by rfl, ?_⟩, fun _ _ _ h => h, ?_⟩
  rotate_left 1
  · intro W hW
    try dsimp only at hW
    go_simp
    try with_reducible rfl
  simp only [Act.put, List.setIfInBounds_toArray, List.set_cons_zero, List.set_cons_succ]
  refine wpH.take (i := 5) (by kernel_rfl) (by kernel_rfl) (by kernel_rfl) (by kernel_rfl) (by kernel_rfl) HS ?_
  intro oi ho
  simp only [List.getElem?_toArray, List.getElem?_cons_succ, List.getElem?_cons_zero, Option.some.injEq] at ho
  subst ho
  refine ⟨?_, Or.inl ⟨by rfl, ?_⟩, fun _ _ _ h => h, ?_⟩
  rotate_left 1
  · intro W hW
    try dsimp only at hW
    go_simp
    try with_reducible rfl
  simp only [Act.put, List.setIfInBounds_toArray, List.set_cons_zero, List.set_cons_succ]
  refine wpH.take (i := 6) (by kernel_rfl) (by kernel_rfl) (by kernel_rfl) (by kernel_rfl) (by kernel_rfl) HS ?_
  intro oi ho
  simp only [List.getElem?_toArray, List.getElem?_cons_succ, List.getElem?_cons_zero, Option.some.injEq] at ho
  subst ho
  refine ⟨?_, Or.inl ⟨by rfl, ?_⟩, fun _ _ _ h => h, ?_⟩
  rotate_left 1
  · intro W hW
    try dsimp only at hW
    go_simp
    try with_reducible rfl
  simp only [Act.put, List.setIfInBounds_toArray, List.set_cons_zero, List.set_cons_succ]
  refine wpH.take (i := 7) (by kernel_rfl) (by kernel_rfl) (by kernel_rfl) (by kernel_rfl) (by kernel_rfl) HS ?_
  intro oi ho
  simp only [List.getElem?_toArray, List.getElem?_cons_succ, List.getElem?_cons_zero, Option.some.injEq] at ho
  subst ho
  refine ⟨?_, Or.inl ⟨by rfl, ?_⟩, fun _ _ _ h => h, ?_⟩
  rotate_left 1
  · intro W hW
    try dsimp only at hW
    go_simp
    try with_reducible rfl
  simp only [Act.put, List.setIfInBounds_toArray, List.set_cons_zero, List.set_cons_succ]
  refine wpH.take (i := 8) (by kernel_rfl) (by kernel_rfl) (by kernel_rfl) (by kernel_rfl) (by kernel_rfl) HS ?_
  intro oi ho
  simp only [List.getElem?_toArray, List.getElem?_cons_succ, List.getElem?_cons_zero, Option.some.injEq] at ho
  subst ho
  refine ⟨?_, Or.inl ⟨by rfl, ?_⟩, fun _ _ _ h => h, ?_⟩
  rotate_left 1
  · intro W hW
    try dsimp only at hW
    go_simp
    try with_reducible rfl
  simp only [Act.put, List.setIfInBounds_toArray, List.set_cons_zero, List.set_cons_succ]
  refine wpH.take (i := 9) (by kernel_rfl) (by kernel_rfl) (by kernel_rfl) (by kernel_rfl) (by kernel_rfl) HS ?_
  intro oi ho
  simp only [List.getElem?_toArray, List.getElem?_cons_succ, List.getElem?_cons_zero, Option.some.injEq] at ho
  subst ho
  refine ⟨?_, Or.inl ⟨by rfl, ?_⟩, fun _ _ _ h => h, ?_⟩
  rotate_left 1
  · intro W hW
    try dsimp only at hW
    go_simp
    try with_reducible rfl
  simp only [Act.put, List.setIfInBounds_toArray, List.set_cons_zero, List.set_cons_succ]
  refine wpH.take (i := 10) (by kernel_rfl) (by kernel_rfl) (by kernel_rfl) (by kernel_rfl) (by kernel_rfl) HS ?_
  intro oi ho
  simp only [List.getElem?_toArray, List.getElem?_cons_succ, List.getElem?_cons_zero, Option.some.injEq] at ho
  subst ho
  refine ⟨?_, Or.inl ⟨by rfl, ?_⟩, fun _ _ _ h => h, ?_⟩
  rotate_left 1
  · intro W hW
    try dsimp only at hW
    go_simp
    try with_reducible rfl
  simp only [Act.put, List.setIfInBounds_toArray, List.set_cons_zero, List.set_cons_succ]
  refine wpH.take (i := 11) (by kernel_rfl) (by kernel_rfl) (by kernel_rfl) (by kernel_rfl) (by kernel_rfl) HS ?_
  intro oi ho
  simp only [List.getElem?_toArray, List.getElem?_cons_succ, List.getElem?_cons_zero, Option.some.injEq] at ho
  subst ho
  refine ⟨?_, Or.inl ⟨by rfl, ?_⟩, fun _ _ _ h => h, ?_⟩
  rotate_left 1
  · intro W hW
    try dsimp only at hW
    go_simp
    try with_reducible rfl
  simp only [Act.put, List.setIfInBounds_toArray, List.set_cons_zero, List.set_cons_succ]
  refine wpH.take (i := 12) (by kernel_rfl) (by kernel_rfl) (by kernel_rfl) (by kernel_rfl) (by kernel_rfl) HS ?_
  intro oi ho
  simp only [List.getElem?_toArray, List.getElem?_cons_succ, List.getElem?_cons_zero, Option.some.injEq] at ho
  subst ho
  refine ⟨?_, Or.inl ⟨by rfl, ?_⟩, fun _ _ _ h => h, ?_⟩
  rotate_left 1
  · intro W hW
    try dsimp only at hW
    go_simp
    try with_reducible rfl
  simp only [Act.put, List.setIfInBounds_toArray, List.set_cons_zero, List.set_cons_succ]
  refine wpH.take (i := 13) (by kernel_rfl) (by kernel_rfl) (by kernel_rfl) (by kernel_rfl) (by kernel_rfl) HS ?_
  intro oi ho
  simp only [List.getElem?_toArray, List.getElem?_cons_succ, List.getElem?_cons_zero, Option.some.injEq] at ho
  subst ho
  refine ⟨?_, Or.inl ⟨by rfl, ?_⟩, fun _ _ _ h => h, ?_⟩
  rotate_left 1
  · intro W hW
    try dsimp only at hW
    go_simp
    try with_reducible rfl
  simp only [Act.put, List.setIfInBounds_toArray, List.set_cons_zero, List.set_cons_succ]
  refine wpH.take (i := 14) (by kernel_rfl) (by kernel_rfl) (by kernel_rfl) (by kernel_rfl) (by kernel_rfl) HS ?_
  intro oi ho
  simp only [List.getElem?_toArray, List.getElem?_cons_succ, List.getElem?_cons_zero, Option.some.injEq] at ho
  subst ho
  refine ⟨?_, Or.inl ⟨by rfl, ?_⟩, fun _ _ _ h => h, ?_⟩
  rotate_left 1
  · intro W hW
    try dsimp only at hW
    go_simp
    try with_reducible rfl
  simp only [Act.put, List.setIfInBounds_toArray, List.set_cons_zero, List.set_cons_succ]
  refine wpH.take (i := 15) (by kernel_rfl) (by kernel_rfl) (by kernel_rfl) (by kernel_rfl) (by kernel_rfl) HS ?_
  intro oi ho
  simp only [List.getElem?_toArray, List.getElem?_cons_succ, List.getElem?_cons_zero, Option.some.injEq] at ho
  subst ho
  refine ⟨?_, Or.inl ⟨by rfl, ?_⟩, fun _ _ _ h => h, ?_⟩
  rotate_left 1
  · intro W hW
    try dsimp only at hW
    go_simp
    try with_reducible rfl
  simp only [Act.put, List.setIfInBounds_toArray, List.set_cons_zero, List.set_cons_succ]
  refine wpH.take (i := 16) (by kernel_rfl) (by kernel_rfl) (by kernel_rfl) (by kernel_rfl) (by kernel_rfl) HS ?_
  intro oi ho
  simp only [List.getElem?_toArray, List.getElem?_cons_succ, List.getElem?_cons_zero, Option.some.injEq] at ho
  subst ho
  refine ⟨?_, Or.inl ⟨by rfl, ?_⟩, fun _ _ _ h => h, ?_⟩
  rotate_left 1
  · intro W hW
    try dsimp only at hW
    go_simp
    try with_reducible rfl
  simp only [Act.put, List.setIfInBounds_toArray, List.set_cons_zero, List.set_cons_succ]
  refine wpH.take (i := 17) (by kernel_rfl) (by kernel_rfl) (by kernel_rfl) (by kernel_rfl) (by kernel_rfl) HS ?_
  intro oi ho
  simp only [List.getElem?_toArray, List.getElem?_cons_succ, List.getElem?_cons_zero, Option.some.injEq] at ho
  subst ho
  refine ⟨?_, Or.inl ⟨by rfl, ?_⟩, fun _ _ _ h => h, ?_⟩
  rotate_left 1
  · intro W hW
    try dsimp only at hW
    go_simp
    try with_reducible rfl
  simp only [Act.put, List.setIfInBounds_toArray, List.set_cons_zero, List.set_cons_succ]
  refine wpH.take (i := 18) (by kernel_rfl) (by kernel_rfl) (by kernel_rfl) (by kernel_rfl) (by kernel_rfl) HS ?_
  intro oi ho
  simp only [List.getElem?_toArray, List.getElem?_cons_succ, List.getElem?_cons_zero, Option.some.injEq] at ho
  subst ho
  refine ⟨?_, Or.inl ⟨by rfl, ?_⟩, fun _ _ _ h => h, ?_⟩
  rotate_left 1
  · intro W hW
    try dsimp only at hW
    go_simp
    try with_reducible rfl
  simp only [Act.put, List.setIfInBounds_toArray, List.set_cons_zero, List.set_cons_succ]
  refine wpH.take (i := 19) (by kernel_rfl) (by kernel_rfl) (by kernel_rfl) (by kernel_rfl) (by kernel_rfl) HS ?_
  intro oi ho
  simp only [List.getElem?_toArray, List.getElem?_cons_succ, List.getElem?_cons_zero, Option.some.injEq] at ho
  subst ho
  refine ⟨?_, Or.inl ⟨by rfl, ?_⟩, fun _ _ _ h => h, ?_⟩
  rotate_left 1
  · intro W hW
    try dsimp only at hW
    go_simp
    try with_reducible rfl
  simp only [Act.put, List.setIfInBounds_toArray, List.set_cons_zero, List.set_cons_succ]
  refine wpH.take (i := 20) (by kernel_rfl) (by kernel_rfl) (by kernel_rfl) (by kernel_rfl) (by kernel_rfl) HS ?_
  intro oi ho
  simp only [List.getElem?_toArray, List.getElem?_cons_succ, List.getElem?_cons_zero, Option.some.injEq] at ho
  subst ho
  refine ⟨?_, Or.inl ⟨by rfl, ?_⟩, fun _ _ _ h => h, ?_⟩
  rotate_left 1
  · intro W hW
    try dsimp only at hW
    go_simp
    try with_reducible rfl
  simp only [Act.put, List.setIfInBounds_toArray, List.set_cons_zero, List.set_cons_succ]
  refine wpH.take (i := 21) (by kernel_rfl) (by kernel_rfl) (by kernel_rfl) (by kernel_rfl) (by kernel_rfl) HS ?_
  intro oi ho
  simp only [List.getElem?_toArray, List.getElem?_cons_succ, List.getElem?_cons_zero, Option.some.injEq] at ho
  subst ho
  refine ⟨?_, Or.inl ⟨by rfl, ?_⟩, fun _ _ _ h => h, ?_⟩
  rotate_left 1
  · intro W hW
    try dsimp only at hW
    go_simp
    try with_reducible rfl
  simp only [Act.put, List.setIfInBounds_toArray, List.set_cons_zero, List.set_cons_succ]
  refine wpH.take (i := 24) (by kernel_rfl) (by kernel_rfl) (by kernel_rfl) (by kernel_rfl) (by kernel_rfl) HS ?_
  intro oi ho
  simp only [List.getElem?_toArray, List.getElem?_cons_succ, List.getElem?_cons_zero, Option.some.injEq] at ho
  subst ho
  refine ⟨?_, Or.inl ⟨by rfl, ?_⟩, fun _ _ _ h => h, ?_⟩
  rotate_left 1
  · intro W hW
    try dsimp only at hW
    go_simp
    try with_reducible rfl
  simp only [Act.put, List.setIfInBounds_toArray, List.set_cons_zero, List.set_cons_succ]
  refine wpH.one (i := 22) (by kernel_rfl) ?_
  intro oi ho
  simp only [List.getElem?_toArray, List.getElem?_cons_succ, List.getElem?_cons_zero, Option.some.injEq] at ho
  subst ho
  intro K' hK
  have HK := Lib.hid hK
  clear hK
  go_simp
  refine HK.out _ _ (fun _ => FC.out _ HBA.out) ?_
  have HS := FC.out _ HBA.out
  try simp only [Act.put, List.setIfInBounds_toArray, List.set_cons_zero, List.set_cons_succ]
  refine wpH.one (i := 23) (by kernel_rfl) ?_
  intro oi ho
  simp only [List.getElem?_toArray, List.getElem?_cons_succ, List.getElem?_cons_zero, Option.some.injEq] at ho
  subst ho
  intro K' hK
  have HK := Lib.hid hK
  clear hK
  go_simp
  refine HK.out _ _ (fun _ => FC.out _ HBA.out) ?_
  have HS := FC.out _ HBA.out
  try simp only [Act.put, List.setIfInBounds_toArray, List.set_cons_zero, List.set_cons_succ]
  refine wpH.done (by kernel_rfl) ?_
  have S5 := (SH3.out.box (b := w3.heap.size) rfl #[.int .i64 (K : Int), .int .i64 (I : Int), .int .i64 LK, .int .i64 (I : Int), .int .i64 (K : Int), .int .i64 LI] 29).drew
  have HKW := Lib.hid (show keepW w ((w3.alloc (.cells #[.int .i64 (K : Int), .int .i64 (I : Int), .int .i64 LK, .int .i64 (I : Int), .int .i64 (K : Int), .int .i64 LI] 29)).drew) bp (.slice wo ws.length (ws.length + wsp)) from keepW.below (HB3.out.alloc HB3.out.size _).drew)
  obtain ⟨bz, hbz⟩ : ∃ b, b = w3.heap.size := ⟨_, rfl⟩
  have HBZ := Lib.hid (show w.heap.size ≤ bz by have := HZ3.out; omega)
  have hzz : bz + 1 ≤ ((w3.alloc (.cells #[.int .i64 (K : Int), .int .i64 (I : Int), .int .i64 LK, .int .i64 (I : Int), .int .i64 (K : Int), .int .i64 LI] 29)).drew).heap.size := by rw [hbz]; simp
  try go_wp2_with fail
  try rw [← hbz]
  rw [← hbz] at S5
  have S6 : St w0 ((w3.alloc (.cells #[.int .i64 (K : Int), .int .i64 (I : Int), .int .i64 LK, .int .i64 (I : Int), .int .i64 (K : Int), .int .i64 LI] 29)).drew) [.box bp #[.slice (some ⟨jb, joff, none⟩) js.length jc, .slice wo ws.length (ws.length + wsp), .bool f, .int .i64 l, .slice so S.length (S.length + sc)] 55, .owns waitE B (fun _ => False) (.slice wo ws.length (ws.length + wsp)) ws, .rowE intE ps so S, .keepF w bp (.slice wo ws.length (ws.length + wsp)), .box bz #[.int .i64 (K : Int), .int .i64 (I : Int), .int .i64 LK, .int .i64 (I : Int), .int .i64 (K : Int), .int .i64 LI] 29] := (((S5.pick [0, 1, 2]).add (.keepF w bp (.slice wo ws.length (ws.length + wsp))) HKW.out).add (.box bz #[.int .i64 (K : Int), .int .i64 (I : Int), .int .i64 LK, .int .i64 (I : Int), .int .i64 (K : Int), .int .i64 LI] 29) (S5.block 3))
  have HOWN := Lib.hid (fun b (e : (.slice wo ws.length (ws.length + wsp) : Value).ownBlock = some b) => (HS0.out.ownlt waitE 1 rfl b e).2)
  clear S5 HKW SD HS hbz FC
  generalize ((w3.alloc (.cells #[.int .i64 (K : Int), .int .i64 (I : Int), .int .i64 LK, .int .i64 (I : Int), .int .i64 (K : Int), .int .i64 LI] 29)).drew) = w6 at S6 hzz ⊢
  have HOL2 := Lib.hid (And.intro hki hin)
  have HNB := Lib.hid (show bp < bz by have := HBL.out; have := HBZ.out; omega)
  obtain ⟨iW, gi, gz0, gz1, gz2⟩ := info_parts infoW
  have hws12 : ws.length ≤ 12 := by have := HM.out.2; omega
  go_loopw [77] (fun i wr => ∃ (k : Nat) (wv1 : Value) (f1 : Bool) (l1 : Int) (so1 : Option Addr) (S1 : List Int) (sc1 : Nat) (ps1 : Nat → Prop), k ≤ 2 ∧ i = .int .i64 k ∧ bz + 1 ≤ wr.heap.size ∧ St w0 wr [.box bp #[.slice (some ⟨jb, joff, none⟩) js.length jc, wv1, .bool f1, .int .i64 l1, .slice so1 S1.length (S1.length + sc1)] 55, .owns waitE B (fun _ => False) (wv1) (ws), .rowE intE ps1 so1 S1, .keepF w bp (.slice wo ws.length (ws.length + wsp)), .box bz #[.int .i64 (K : Int), .int .i64 (I : Int), .int .i64 LK, .int .i64 (I : Int), .int .i64 (K : Int), .int .i64 LI] 29] ∧ Hid (okS S1 ∧ (f1 = true → S1.length = js.length) ∧ offP ps1 bp wv1 wr ∧ (∀ b, wv1.ownBlock = some b → (.slice wo ws.length (ws.length + wsp) : Value).ownBlock = some b ∨ w.heap.size ≤ b) ∧ wv1.ownBlock ≠ some bz ∧ SRAt js ws ⟨K, I, LK⟩ ⟨I, K, LI⟩ f l S k f1 l1 S1)) (fun i _ => 2 - (intOf i).toNat)
  case atStart => exact ⟨0, _, f, l, so, S, sc, ps, by omega, rfl, hzz, S6, Lib.hid ⟨HOS.out, HFL.out, HOF.out.more (by have := HBZ.out; omega), fun b h => .inl h, fun e => by have := HOWN.out _ e; have := HBZ.out; omega, .inl ⟨rfl, rfl, rfl, rfl⟩⟩⟩
  case round =>
    clear S6 hzz
    obtain ⟨k, wv1, f1, l1, so1, S1, sc1, ps1, hk, rfl, hzz, T, HC⟩ := hrel
    by_cases hlt : k < 2
    · obtain ⟨X, hXc, hXo, hXw, hXs⟩ : ∃ X : Wt, (wr.cell? ⟨bz, k * 3, none⟩ = some (.int .i64 X.a) ∧ wr.cell? ⟨bz, k * 3 + 1, none⟩ = some (.int .i64 X.b) ∧ wr.cell? ⟨bz, k * 3 + 2, none⟩ = some (.int .i64 X.by_)) ∧ openN js (ws ++ [X]) js.length < openN js ws js.length ∧ okW js.length (ws ++ [X]) ∧ ∀ f2 l2 S2, SRel js (ws ++ [X]) f1 l1 S1 f2 l2 S2 → SRAt js ws ⟨K, I, LK⟩ ⟨I, K, LI⟩ f l S (k + 1) f2 l2 S2 := by
        rcases (show k = 0 ∨ k = 1 by omega) with rfl | rfl
        · refine ⟨⟨K, I, LK⟩, ⟨(T.cell 4 0 rfl).1, (T.cell 4 1 rfl).1, (T.cell 4 2 rfl).1⟩, HOP.out.1, HOW.out.snoc hkn HOL2.out.2 (by show -4 ≤ LK; omega) k2, fun f2 l2 S2 h => ?_⟩
          rcases HC.out.2.2.2.2.2 with ⟨_, a, b, c⟩ | ⟨e, _⟩ | ⟨e, _⟩
          · subst a b c; exact .inr (.inl ⟨rfl, h⟩)
          · omega
          · omega
        · refine ⟨⟨I, K, LI⟩, ⟨(T.cell 4 3 rfl).1, (T.cell 4 4 rfl).1, (T.cell 4 5 rfl).1⟩, HOP.out.2, HOW.out.snoc HOL2.out.2 hkn (by show -4 ≤ LI; omega) k4, fun f2 l2 S2 h => ?_⟩
          rcases HC.out.2.2.2.2.2 with ⟨e, _⟩ | ⟨_, h1⟩ | ⟨e, _⟩
          · omega
          · exact .inr (.inr ⟨rfl, SRel.both (r := []) HOL2.out.1 HOL2.out.2 HRV.out (by rw [HW0.out]; exact h1) (by rw [HW1.out]; exact h)⟩)
          · omega
      obtain ⟨hx0, hx1, hx2⟩ := hXc
      have HXO := Lib.hid hXo; have HXW := Lib.hid hXw; have HXS := Lib.hid hXs
      obtain ⟨XA, hXA⟩ : ∃ z, z = X.a := ⟨_, rfl⟩
      obtain ⟨XB, hXB⟩ : ∃ z, z = X.b := ⟨_, rfl⟩
      obtain ⟨XD, hXD⟩ : ∃ z, z = X.by_ := ⟨_, rfl⟩
      rw [← hXA] at hx0
      rw [← hXB] at hx1
      rw [← hXD] at hx2
      have HXE := Lib.hid (show waitE.is (fun _ => False) wr [.int .i64 (XA : Int), .int .i64 (XB : Int), .int .i64 XD] X by rw [hXA, hXB, hXD]; rfl)
      have hlti : (k : Int) < 2 := by omega
      clear hXo hXw hXs hXA hXB hXD
      obtain ⟨bt, hbt⟩ : ∃ b, b = wr.heap.size := ⟨_, rfl⟩
      have T2 := T.box hbt.symm #[.int .i64 (XA : Int), .int .i64 (XB : Int), .int .i64 XD] 29
      have hzt : bt + 1 ≤ (wr.alloc (.cells #[.int .i64 (XA : Int), .int .i64 (XB : Int), .int .i64 XD] 29)).heap.size := by simp [hbt]
      have HZT := Lib.hid (show bz + 1 ≤ bt by omega)
      have HOT := Lib.hid (show ∀ b, wv1.ownBlock = some b → b < bt from fun b e => by have := (T.ownlt waitE 1 rfl b e).2; omega)
      have HPT := Lib.hid (show ∀ b, ps1 b → b < bt ∧ b ≠ bp ∧ wv1.ownBlock ≠ some b from fun b h => by have := HC.out.2.2.1.2 b h; exact ⟨by omega, this.2⟩)
      have HBT := Lib.hid (show bp < bt by have := T.lt 0; omega)
      go_wp2_with fail
      rw [← hbt]
      clear hbt T hx0 hx1 hx2
      generalize wr.alloc (.cells #[.int .i64 (XA : Int), .int .i64 (XB : Int), .int .i64 XD] 29) = w7 at T2 hzt ⊢
      have x1 := (T2.cell 0 1 rfl).1
      have xa := (T2.cell 5 0 rfl).1; have xb := (T2.cell 5 1 rfl).1; have xc := (T2.cell 5 2 rfl).1
      have FC := Lib.hid (fun W (hb : Below w7.heap.size w7 W) => (⟨Below.cellOf hb x1, Below.cellOf hb xa, Below.cellOf hb xb, Below.cellOf hb xc⟩ : (fun W => W.cell? ⟨bp, 1, none⟩ = some wv1 ∧ W.cell? ⟨bt, 0, none⟩ = some (.int .i64 (XA : Int)) ∧ W.cell? ⟨bt, 1, none⟩ = some (.int .i64 (XB : Int)) ∧ W.cell? ⟨bt, 2, none⟩ = some (.int .i64 XD)) W))
      have SD := T2.drew
      have HX7 : Hid (waitE.is (fun _ => False) w7.drew [.int .i64 (XA : Int), .int .i64 (XB : Int), .int .i64 XD] X) := Lib.hid HXE.out
      have HZB := Lib.hid (show bt + 1 ≤ w7.heap.size from hzt)
      have HOFF := Lib.hid (show ∀ bb, wv1.ownBlock = some bb → offs bb 1 [.box bp #[.slice (some ⟨jb, joff, none⟩) js.length jc, wv1, .bool f1, .int .i64 l1, .slice so1 S1.length (S1.length + sc1)] 55, .owns waitE B (fun _ => False) wv1 ws, .rowE intE ps1 so1 S1, .keepF w bp (.slice wo ws.length (ws.length + wsp)), .box bz #[.int .i64 (K : Int), .int .i64 (I : Int), .int .i64 LK, .int .i64 (I : Int), .int .i64 (K : Int), .int .i64 LI] 29, .box bt #[.int .i64 (XA : Int), .int .i64 (XB : Int), .int .i64 XD] 29] from fun bb h1 => by
        have h2 := HOT.out bb h1
        simp only [offs, offAll, Fct.box, Fct.rowE, Fct.keepF, and_true]
        refine ⟨fun e => HC.out.2.2.1.1 (by rw [h1, e]), fun e => (HPT.out bb e).2.2 h1, fun e => ?_, fun e => HC.out.2.2.2.2.1 (by rw [h1, e]), by omega⟩
        rcases HC.out.2.2.2.1 bb h1 with h3 | h3
        · exact e.2.2 h3
        · have := e.1; omega)
      clear T2 x1 xa xb xc
      refine wpH_region [10] (fun W => W.cell? ⟨bp, 1, none⟩ = some wv1 ∧ W.cell? ⟨bt, 0, none⟩ = some (.int .i64 (XA : Int)) ∧ W.cell? ⟨bt, 1, none⟩ = some (.int .i64 (XB : Int)) ∧ W.cell? ⟨bt, 2, none⟩ = some (.int .i64 XD)) (by kernel_rfl) ?_
      have HS := FC.out _ (Below.refl _ w7).drew
      refine wpH.take (i := 0) (by kernel_rfl) (by kernel_rfl) (by kernel_rfl) (by kernel_rfl) (by kernel_rfl) HS ?_
      intro oi ho
      simp only [List.getElem?_toArray, List.getElem?_cons_zero, Option.some.injEq] at ho
      subst ho
      refine ⟨?_, Or.inl ⟨by rfl, ?_⟩, fun _ _ _ h => h, ?_⟩
      rotate_left 1
      · intro W hW
        try dsimp only at hW
        go_simp
        try with_reducible rfl
      simp only [Act.put, List.setIfInBounds_toArray, List.set_cons_zero, List.set_cons_succ]
      refine wpH.take (i := 1) (by kernel_rfl) (by kernel_rfl) (by kernel_rfl) (by kernel_rfl) (by kernel_rfl) HS ?_
      intro oi ho
      simp only [List.getElem?_toArray, List.getElem?_cons_succ, List.getElem?_cons_zero, Option.some.injEq] at ho
      subst ho
      refine ⟨?_, Or.inl ⟨by rfl, ?_⟩, fun _ _ _ h => h, ?_⟩
      rotate_left 1
      · intro W hW
        try dsimp only at hW
        go_simp
        try with_reducible rfl
      simp only [Act.put, List.setIfInBounds_toArray, List.set_cons_zero, List.set_cons_succ]
      refine wpH.take (i := 2) (by kernel_rfl) (by kernel_rfl) (by kernel_rfl) (by kernel_rfl) (by kernel_rfl) HS ?_
      intro oi ho
      simp only [List.getElem?_toArray, List.getElem?_cons_succ, List.getElem?_cons_zero, Option.some.injEq] at ho
      subst ho
      refine ⟨?_, Or.inl ⟨by rfl, ?_⟩, fun _ _ _ h => h, ?_⟩
      rotate_left 1
      · intro W hW
        try dsimp only at hW
        go_simp
        try with_reducible rfl
      simp only [Act.put, List.setIfInBounds_toArray, List.set_cons_zero, List.set_cons_succ]
      refine wpH.take (i := 3) (by kernel_rfl) (by kernel_rfl) (by kernel_rfl) (by kernel_rfl) (by kernel_rfl) HS ?_
      intro oi ho
      simp only [List.getElem?_toArray, List.getElem?_cons_succ, List.getElem?_cons_zero, Option.some.injEq] at ho
      subst ho
      refine ⟨?_, Or.inl ⟨by rfl, ?_⟩, fun _ _ _ h => h, ?_⟩
      rotate_left 1
      · intro W hW
        try dsimp only at hW
        go_simp
        try with_reducible rfl
      simp only [Act.put, List.setIfInBounds_toArray, List.set_cons_zero, List.set_cons_succ]
      refine wpH.take (i := 4) (by kernel_rfl) (by kernel_rfl) (by kernel_rfl) (by kernel_rfl) (by kernel_rfl) HS ?_
      intro oi ho
      simp only [List.getElem?_toArray, List.getElem?_cons_succ, List.getElem?_cons_zero, Option.some.injEq] at ho
      subst ho
      refine ⟨?_, Or.inl ⟨by rfl, ?_⟩, fun _ _ _ h => h, ?_⟩
      rotate_left 1
      · intro W hW
        try dsimp only at hW
        go_simp
        try with_reducible rfl
      simp only [Act.put, List.setIfInBounds_toArray, List.set_cons_zero, List.set_cons_succ]
      refine wpH.take (i := 5) (by kernel_rfl) (by kernel_rfl) (by kernel_rfl) (by kernel_rfl) (by kernel_rfl) HS ?_
      intro oi ho
      simp only [List.getElem?_toArray, List.getElem?_cons_succ, List.getElem?_cons_zero, Option.some.injEq] at ho
      subst ho
      refine ⟨?_, Or.inl ⟨by rfl, ?_⟩, fun _ _ _ h => h, ?_⟩
      rotate_left 1
      · intro W hW
        try dsimp only at hW
        go_simp
        try with_reducible rfl
      simp only [Act.put, List.setIfInBounds_toArray, List.set_cons_zero, List.set_cons_succ]
      refine wpH.one (i := 6) (by kernel_rfl) ?_
      intro oi ho
      simp only [List.getElem?_toArray, List.getElem?_cons_succ, List.getElem?_cons_zero, Option.some.injEq] at ho
      subst ho
      intro K' hK
      have HK := Lib.hid hK
      clear hK
      go_simp
      have HBA8 : Hid (Below w7.heap.size w7 (w7.drew.alloc (.cells #[.int .i64 (XA : Int), .int .i64 (XB : Int), .int .i64 XD] 29))) := Lib.hid ((Below.refl _ w7).drew.alloc (Nat.le_refl _) _)
      refine HK.out _ _ (fun _ => FC.out _ HBA8.out) ?_
      have HS := FC.out _ HBA8.out
      try simp only [Act.put, List.setIfInBounds_toArray, List.set_cons_zero, List.set_cons_succ]
      refine wpH.one (i := 7) (by kernel_rfl) ?_
      intro oi ho
      simp only [List.getElem?_toArray, List.getElem?_cons_succ, List.getElem?_cons_zero, Option.some.injEq] at ho
      subst ho
      intro K' hK
      have HK := Lib.hid hK
      clear hK
      refine step_app (by rfl) (.tmp 85) (.tmp 87) 27 (by rfl) waitE SD 1 rfl (x := X) (q := fun _ => False) (p' := fun _ => False) HX7.out Try.underlying27 gi gz0 gz1 gz2 (by rfl) (by rfl) (by rfl) (by rfl) (by unfold maxLen; omega) (by omega) (by have := HZB.out; have := HBT.out; simp; omega) hB (fun bb h1 h2 h3 => HOFF.out bb h1) (fun bb h _ => h) (fun bb h => h.elim id id) ?_
      intro gg cap w8 S8 hs8 hgg hat8
      have HC8 := Lib.hid (⟨(S8.cell 0 1 rfl).1, (S8.cell 5 0 rfl).1, (S8.cell 5 1 rfl).1, (S8.cell 5 2 rfl).1⟩ : (fun W => W.cell? ⟨bp, 1, none⟩ = some wv1 ∧ W.cell? ⟨bt, 0, none⟩ = some (.int .i64 (XA : Int)) ∧ W.cell? ⟨bt, 1, none⟩ = some (.int .i64 (XB : Int)) ∧ W.cell? ⟨bt, 2, none⟩ = some (.int .i64 XD)) w8)
      refine HK.out _ _ (fun _ => HC8.out) ?_
      have HS := HC8.out
      try simp only [Act.put, List.setIfInBounds_toArray, List.set_cons_zero, List.set_cons_succ]
      refine wpH.take (i := 8) (by kernel_rfl) (by kernel_rfl) (by kernel_rfl) (by kernel_rfl) (by kernel_rfl) HS ?_
      intro oi ho
      simp only [List.getElem?_toArray, List.getElem?_cons_succ, List.getElem?_cons_zero, Option.some.injEq] at ho
      subst ho
      refine ⟨?_, Or.inl ⟨by rfl, ?_⟩, fun _ _ _ h => h, ?_⟩
      rotate_left 1
      · intro W hW
        try dsimp only at hW
        go_simp
        try with_reducible rfl
      simp only [Act.put, List.setIfInBounds_toArray, List.set_cons_zero, List.set_cons_succ]
      refine wpH.take (i := 9) (by kernel_rfl) (by kernel_rfl) (by kernel_rfl) (by kernel_rfl) (by kernel_rfl) HS ?_
      intro oi ho
      simp only [List.getElem?_toArray, List.getElem?_cons_succ, List.getElem?_cons_zero, Option.some.injEq] at ho
      subst ho
      refine ⟨?_, Or.inl ⟨by rfl, ?_⟩, fun _ _ _ h => h, ?_⟩
      rotate_left 1
      · intro W hW
        try dsimp only at hW
        go_simp
        try with_reducible rfl
      simp only [Act.put, List.setIfInBounds_toArray, List.set_cons_zero, List.set_cons_succ]
      refine wpH.one (i := 10) (by kernel_rfl) ?_
      intro oi ho
      simp only [List.getElem?_toArray, List.getElem?_cons_succ, List.getElem?_cons_zero, Option.some.injEq] at ho
      subst ho
      intro K' hK
      have HK := Lib.hid hK
      clear hK
      obtain ⟨e0, e1⟩ := S8.cell 0 1 rfl
      have hlb := S8.lt 0
      go_simp
      refine HK.out _ _ (fun h => absurd h (by decide)) ?_
      try simp only [Act.put, List.setIfInBounds_toArray, List.set_cons_zero, List.set_cons_succ]
      refine wpH.done (by kernel_rfl) ?_
      have hgbp : gg ≠ bp := fun e => by
        rcases hat8 with h | h
        · exact HC.out.2.2.1.1 (by rw [h, e])
        · have := HBT.out; have := HZB.out; simp at h; omega
      have hgps : ¬ ps1 gg := fun e => by
        rcases hat8 with h | h
        · exact (HPT.out gg e).2.2 h
        · have := (HPT.out gg e).1; have := HZB.out; simp at h; omega
      have hgbz : gg ≠ bz := fun e => by
        rcases hat8 with h | h
        · exact HC.out.2.2.2.2.1 (by rw [h, e])
        · have := HZT.out; have := HZB.out; simp at h; omega
      have HGO := Lib.hid (show ∀ b, (.slice (some ⟨gg, 0, none⟩) (ws.length + 1) cap : Value).ownBlock = some b → (.slice wo ws.length (ws.length + wsp) : Value).ownBlock = some b ∨ w.heap.size ≤ b from fun b e => by
        have e' : gg = b := by simpa [Value.ownBlock] using e
        subst e'
        rcases hat8 with h | h
        · exact HC.out.2.2.2.1 gg h
        · right; have := HZB.out; have := HZT.out; have := HBZ.out; simp at h; omega)
      have HPS := Lib.hid (show ∀ b, ps1 b → b < w8.heap.size ∧ b ≠ bp ∧ (.slice (some ⟨gg, 0, none⟩) (ws.length + 1) cap : Value).ownBlock ≠ some b from fun b e => ⟨by have := (HPT.out b e).1; have := HZB.out; simp at hs8; omega, (HPT.out b e).2.1, fun h => by
        have e' : gg = b := by simpa [Value.ownBlock] using h
        subst e'; exact hgps e⟩)
      have SF := S8.setAt 0 1 rfl (.slice (some ⟨gg, 0, none⟩) (ws.length + 1) cap) hbp (by
        simp only [offs, offAll, Fct.box, Fct.rowE, Fct.keepF, Fct.owns, fset, fsnoc, and_true]
        exact ⟨fun e => e.elim (fun e => hgbp (by simpa [Value.ownBlock] using e)) id, fun e => (HPT.out bp e).2.1 rfl, fun e => e.2.1 rfl, fun e => by have := HZT.out; have := HNB.out; omega, fun e => by have := HBT.out; omega⟩)
      have SG := Lib.hid (show St w0 _ [.box bp #[.slice (some ⟨jb, joff, none⟩) js.length jc, .slice (some ⟨gg, 0, none⟩) (ws.length + 1) cap, .bool f1, .int .i64 l1, .slice so1 S1.length (S1.length + sc1)] 55, .owns waitE B (fun _ => False) (.slice (some ⟨gg, 0, none⟩) (ws.length + 1) cap) (ws ++ [X]), .rowE intE ps1 so1 S1, .keepF w bp (.slice wo ws.length (ws.length + wsp)), .box bz #[.int .i64 (K : Int), .int .i64 (I : Int), .int .i64 LK, .int .i64 (I : Int), .int .i64 (K : Int), .int .i64 LI] 29] from SF.pick [0, 1, 2, 3, 4])
      have hz9 : bz + 1 ≤ (w8.setCell ⟨bp, 1, none⟩ (.slice (some ⟨gg, 0, none⟩) (ws.length + 1) cap)).heap.size := by have := HZT.out; have := HZB.out; simp at hs8; simp; omega
      have HPS9 := Lib.hid (show offP ps1 bp (.slice (some ⟨gg, 0, none⟩) (ws.length + 1) cap) (w8.setCell ⟨bp, 1, none⟩ (.slice (some ⟨gg, 0, none⟩) (ws.length + 1) cap)) from ⟨fun e => hgbp (by simpa [Value.ownBlock] using e), fun b h => by have := HPS.out b h; simpa using this⟩)
      have HGZ := Lib.hid hgbz
      clear SF S8 SD HS e0 e1 hlb hgbp hgps hgbz hat8 FC HC8 HPS
      try go_wp2_with fail
      generalize w8.setCell ⟨bp, 1, none⟩ (.slice (some ⟨gg, 0, none⟩) (ws.length + 1) cap) = w9 at SG hz9 HPS9 ⊢
      refine (IH.out (ws ++ [X]) (.slice (some ⟨gg, 0, none⟩) (ws.length + 1) cap) f1 l1 so1 S1 sc1 ps1 w9 (by have := HXO.out; have := HM.out.1; omega) (by rw [List.length_append]; simp only [List.length_cons, List.length_nil]; have := HXO.out; have := HM.out.2; omega) HXW.out HC.out.1 HC.out.2.1 (SG.out.pick [0, 1, 2]) HPS9.out).mono ?_
      rintro e w10 ⟨⟨v, rfl⟩, wv2, f2, l2, so2, S2', sc2, ps2, hst, hsr, hos2, hfl2, hof2, hkw2, hsz2, how2⟩
      obtain ⟨g2, c2, rfl, hc2, htr⟩ := own_some (hst.owns waitE 1)
      have HKW2 := Lib.hid (keepW.trans (SG.out.keepF 3) hkw2 (by have := HBZ.out; omega) HGO.out)
      have HBZ2 := Lib.hid (show w10.heap[bz]? = some (.cells #[.int .i64 (K : Int), .int .i64 (I : Int), .int .i64 LK, .int .i64 (I : Int), .int .i64 (K : Int), .int .i64 LI] 29 (0, 0)) from (hkw2 bz (by omega) (by have := HNB.out; omega) (fun e => HGZ.out (by simpa [Value.ownBlock] using e))).trans (SG.out.block 4))
      have hz10 : bz + 1 ≤ w10.heap.size := by omega
      have HG2 := Lib.hid (show g2 ≠ bp ∧ g2 ≠ bz ∧ ((.slice wo ws.length (ws.length + wsp) : Value).ownBlock = some g2 ∨ w.heap.size ≤ g2) from by
        refine ⟨fun e => hof2.1 (by rw [e]; rfl), fun e => ?_, ?_⟩
        · rcases how2 g2 rfl with h | h
          · exact HGZ.out (by rw [← e]; simpa [Value.ownBlock] using h)
          · omega
        · rcases how2 g2 rfl with h | h
          · exact HGO.out g2 h
          · right; have := HBZ.out; omega)
      have HPS2 := Lib.hid (show ∀ b, ps2 b → b < w10.heap.size ∧ b ≠ bp ∧ g2 ≠ b from fun b h => ⟨(hof2.2 b h).1, (hof2.2 b h).2.1, fun e => (hof2.2 b h).2.2 (by rw [← e]; rfl)⟩)
      have HX2 := Lib.hid (And.intro hos2 (And.intro hfl2 (HXS.out _ _ _ hsr)))
      have U : St w0 w10 [.box bp #[.slice (some ⟨jb, joff, none⟩) js.length jc, .slice (some ⟨g2, 0, none⟩) (ws.length + 1) c2, .bool f2, .int .i64 l2, .slice so2 S2'.length (S2'.length + sc2)] 55, .owns waitE B (fun _ => False) (.slice (some ⟨g2, 0, none⟩) ws.length c2) ws, .rowE intE ps2 so2 S2', .keepF w bp (.slice wo ws.length (ws.length + wsp)), .box bz #[.int .i64 (K : Int), .int .i64 (I : Int), .int .i64 LK, .int .i64 (I : Int), .int .i64 (K : Int), .int .i64 LI] 29] := ((((hst.pick [0]).add (.owns waitE B (fun _ => False) (.slice (some ⟨g2, 0, none⟩) ws.length c2) ws) htr).add (.rowE intE ps2 so2 S2') (hst.rowE intE 2)).add (.keepF w bp (.slice wo ws.length (ws.length + wsp))) HKW2.out).add (.box bz #[.int .i64 (K : Int), .int .i64 (I : Int), .int .i64 LK, .int .i64 (I : Int), .int .i64 (K : Int), .int .i64 LI] 29) HBZ2.out
      have hc2i : (ws.length : Int) + 1 ≤ (c2 : Int) := by omega
      have hc2n : ws.length ≤ c2 := by omega
      have hc2j : (ws.length : Int) ≤ (c2 : Int) := by omega
      have hw104 : IntKind.i64.wrap (ws.length : Int) = (ws.length : Int) := IntWalk.i64_in _ (by omega)
      have hw103 : IntKind.i64.wrap ((ws.length : Int) + 1 - 1) = (ws.length : Int) := by rw [IntWalk.i64_in _ (by omega)]; omega
      have hw103' : IntKind.i64.wrap (((ws.length + 1 : Nat) : Int) - 1) = (ws.length : Int) := by rw [IntWalk.i64_in _ (by omega)]; omega
      clear hst hsr hos2 hfl2 hof2 hkw2 hsz2 how2 hc2 htr SG hz9 HPS9
      go_wp2_with fail
      have x1 := (U.cell 0 1 rfl).1
      have FC := Lib.hid (fun W (hb : Below w10.heap.size w10 W) => (Below.cellOf hb x1 : (fun W => W.cell? ⟨bp, 1, none⟩ = some (.slice (some ⟨g2, 0, none⟩) (ws.length + 1) c2)) W))
      have UD := U.drew
      have HU := Lib.hid U
      clear U x1
      refine wpH_region [14] (fun W => W.cell? ⟨bp, 1, none⟩ = some (.slice (some ⟨g2, 0, none⟩) (ws.length + 1) c2)) (by kernel_rfl) ?_
      have HS := FC.out _ (Below.refl _ w10).drew
      refine wpH.take (i := 0) (by kernel_rfl) (by kernel_rfl) (by kernel_rfl) (by kernel_rfl) (by kernel_rfl) HS ?_
      intro oi ho
      simp only [List.getElem?_toArray, List.getElem?_cons_zero, Option.some.injEq] at ho
      subst ho
      refine ⟨?_, Or.inl ⟨by rfl, ?_⟩, fun _ _ _ h => h, ?_⟩
      rotate_left 1
      · intro W hW
        try dsimp only at hW
        go_simp
        try with_reducible rfl
      simp only [Act.put, List.setIfInBounds_toArray, List.set_cons_zero, List.set_cons_succ]
      refine wpH.take (i := 1) (by kernel_rfl) (by kernel_rfl) (by kernel_rfl) (by kernel_rfl) (by kernel_rfl) HS ?_
      intro oi ho
      simp only [List.getElem?_toArray, List.getElem?_cons_succ, List.getElem?_cons_zero, Option.some.injEq] at ho
      subst ho
      refine ⟨?_, Or.inl ⟨by rfl, ?_⟩, fun _ _ _ h => h, ?_⟩
      rotate_left 1
      · intro W hW
        try dsimp only at hW
        go_simp
        try with_reducible rfl
      simp only [Act.put, List.setIfInBounds_toArray, List.set_cons_zero, List.set_cons_succ]
      refine wpH.take (i := 2) (by kernel_rfl) (by kernel_rfl) (by kernel_rfl) (by kernel_rfl) (by kernel_rfl) HS ?_
      intro oi ho
      simp only [List.getElem?_toArray, List.getElem?_cons_succ, List.getElem?_cons_zero, Option.some.injEq] at ho
      subst ho
      refine ⟨?_, Or.inl ⟨by rfl, ?_⟩, fun _ _ _ h => h, ?_⟩
      rotate_left 1
      · intro W hW
        try dsimp only at hW
        go_simp
        try with_reducible rfl
      simp only [Act.put, List.setIfInBounds_toArray, List.set_cons_zero, List.set_cons_succ]
      refine wpH.take (i := 3) (by kernel_rfl) (by kernel_rfl) (by kernel_rfl) (by kernel_rfl) (by kernel_rfl) HS ?_
      intro oi ho
      simp only [List.getElem?_toArray, List.getElem?_cons_succ, List.getElem?_cons_zero, Option.some.injEq] at ho
      subst ho
      refine ⟨?_, Or.inl ⟨by rfl, ?_⟩, fun _ _ _ h => h, ?_⟩
      rotate_left 1
      · intro W hW
        try dsimp only at hW
        go_simp
        try with_reducible rfl
      simp only [Act.put, List.setIfInBounds_toArray, List.set_cons_zero, List.set_cons_succ]
      refine wpH.take (i := 4) (by kernel_rfl) (by kernel_rfl) (by kernel_rfl) (by kernel_rfl) (by kernel_rfl) HS ?_
      intro oi ho
      simp only [List.getElem?_toArray, List.getElem?_cons_succ, List.getElem?_cons_zero, Option.some.injEq] at ho
      subst ho
      refine ⟨?_, Or.inl ⟨by rfl, ?_⟩, fun _ _ _ h => h, ?_⟩
      rotate_left 1
      · intro W hW
        try dsimp only at hW
        go_simp
        try with_reducible rfl
      simp only [Act.put, List.setIfInBounds_toArray, List.set_cons_zero, List.set_cons_succ]
      refine wpH.take (i := 5) (by kernel_rfl) (by kernel_rfl) (by kernel_rfl) (by kernel_rfl) (by kernel_rfl) HS ?_
      intro oi ho
      simp only [List.getElem?_toArray, List.getElem?_cons_succ, List.getElem?_cons_zero, Option.some.injEq] at ho
      subst ho
      refine ⟨?_, Or.inl ⟨by rfl, ?_⟩, fun _ _ _ h => h, ?_⟩
      rotate_left 1
      · intro W hW
        try dsimp only at hW
        go_simp
        try with_reducible rfl
      simp only [Act.put, List.setIfInBounds_toArray, List.set_cons_zero, List.set_cons_succ]
      refine wpH.take (i := 6) (by kernel_rfl) (by kernel_rfl) (by kernel_rfl) (by kernel_rfl) (by kernel_rfl) HS ?_
      intro oi ho
      simp only [List.getElem?_toArray, List.getElem?_cons_succ, List.getElem?_cons_zero, Option.some.injEq] at ho
      subst ho
      refine ⟨?_, Or.inl ⟨by rfl, ?_⟩, fun _ _ _ h => h, ?_⟩
      rotate_left 1
      · intro W hW
        try dsimp only at hW
        go_simp
        try with_reducible rfl
      simp only [Act.put, List.setIfInBounds_toArray, List.set_cons_zero, List.set_cons_succ]
      refine wpH.take (i := 7) (by kernel_rfl) (by kernel_rfl) (by kernel_rfl) (by kernel_rfl) (by kernel_rfl) HS ?_
      intro oi ho
      simp only [List.getElem?_toArray, List.getElem?_cons_succ, List.getElem?_cons_zero, Option.some.injEq] at ho
      subst ho
      refine ⟨?_, Or.inl ⟨by rfl, ?_⟩, fun _ _ _ h => h, ?_⟩
      rotate_left 1
      · intro W hW
        try dsimp only at hW
        go_simp
        try with_reducible rfl
      simp only [Act.put, List.setIfInBounds_toArray, List.set_cons_zero, List.set_cons_succ]
      refine wpH.take (i := 8) (by kernel_rfl) (by kernel_rfl) (by kernel_rfl) (by kernel_rfl) (by kernel_rfl) HS ?_
      intro oi ho
      simp only [List.getElem?_toArray, List.getElem?_cons_succ, List.getElem?_cons_zero, Option.some.injEq] at ho
      subst ho
      refine ⟨?_, Or.inl ⟨by rfl, ?_⟩, fun _ _ _ h => h, ?_⟩
      rotate_left 1
      · intro W hW
        try dsimp only at hW
        go_simp
        try with_reducible rfl
      simp only [Act.put, List.setIfInBounds_toArray, List.set_cons_zero, List.set_cons_succ]
      refine wpH.take (i := 9) (by kernel_rfl) (by kernel_rfl) (by kernel_rfl) (by kernel_rfl) (by kernel_rfl) HS ?_
      intro oi ho
      simp only [List.getElem?_toArray, List.getElem?_cons_succ, List.getElem?_cons_zero, Option.some.injEq] at ho
      subst ho
      refine ⟨?_, Or.inl ⟨by rfl, ?_⟩, fun _ _ _ h => h, ?_⟩
      rotate_left 1
      · intro W hW
        try dsimp only at hW
        go_simp
        try with_reducible rfl
      simp only [Act.put, List.setIfInBounds_toArray, List.set_cons_zero, List.set_cons_succ]
      refine wpH.take (i := 10) (by kernel_rfl) (by kernel_rfl) (by kernel_rfl) (by kernel_rfl) (by kernel_rfl) HS ?_
      intro oi ho
      simp only [List.getElem?_toArray, List.getElem?_cons_succ, List.getElem?_cons_zero, Option.some.injEq] at ho
      subst ho
      refine ⟨?_, Or.inl ⟨by rfl, ?_⟩, fun _ _ _ h => h, ?_⟩
      rotate_left 1
      · intro W hW
        try dsimp only at hW
        go_simp
        try with_reducible rfl
      simp only [Act.put, List.setIfInBounds_toArray, List.set_cons_zero, List.set_cons_succ]
      refine wpH.take (i := 11) (by kernel_rfl) (by kernel_rfl) (by kernel_rfl) (by kernel_rfl) (by kernel_rfl) HS ?_
      intro oi ho
      simp only [List.getElem?_toArray, List.getElem?_cons_succ, List.getElem?_cons_zero, Option.some.injEq] at ho
      subst ho
      refine ⟨?_, Or.inl ⟨by rfl, ?_⟩, fun _ _ _ h => h, ?_⟩
      rotate_left 1
      · intro W hW
        try dsimp only at hW
        go_simp
        try with_reducible rfl
      simp only [Act.put, List.setIfInBounds_toArray, List.set_cons_zero, List.set_cons_succ]
      refine wpH.take (i := 12) (by kernel_rfl) (by kernel_rfl) (by kernel_rfl) (by kernel_rfl) (by kernel_rfl) HS ?_
      intro oi ho
      simp only [List.getElem?_toArray, List.getElem?_cons_succ, List.getElem?_cons_zero, Option.some.injEq] at ho
      subst ho
      refine ⟨?_, Or.inl ⟨by rfl, ?_⟩, fun _ _ _ h => h, ?_⟩
      rotate_left 1
      · intro W hW
        try dsimp only at hW
        go_simp
        try with_reducible rfl
      simp only [Act.put, List.setIfInBounds_toArray, List.set_cons_zero, List.set_cons_succ]
      refine wpH.take (i := 13) (by kernel_rfl) (by kernel_rfl) (by kernel_rfl) (by kernel_rfl) (by kernel_rfl) HS ?_
      intro oi ho
      simp only [List.getElem?_toArray, List.getElem?_cons_succ, List.getElem?_cons_zero, Option.some.injEq] at ho
      subst ho
      refine ⟨?_, Or.inl ⟨by rfl, ?_⟩, fun _ _ _ h => h, ?_⟩
      rotate_left 1
      · intro W hW
        try dsimp only at hW
        go_simp
        try with_reducible rfl
      simp only [Act.put, List.setIfInBounds_toArray, List.set_cons_zero, List.set_cons_succ]
      refine wpH.one (i := 14) (by kernel_rfl) ?_
      intro oi ho
      simp only [List.getElem?_toArray, List.getElem?_cons_succ, List.getElem?_cons_zero, Option.some.injEq] at ho
      subst ho
      intro K' hK
      have HK := Lib.hid hK
      clear hK
      obtain ⟨e0, e1⟩ := UD.cell 0 1 rfl
      have hlb := UD.lt 0
      go_simp
      refine HK.out _ _ (fun h => absurd h (by decide)) ?_
      try simp only [Act.put, List.setIfInBounds_toArray, List.set_cons_zero, List.set_cons_succ]
      refine wpH.done (by kernel_rfl) ?_
      have UG := Lib.hid (show St w0 ((w10.setCell ⟨bp, 1, none⟩ (.slice (some ⟨g2, 0, none⟩) ws.length c2)).drew) [.box bp #[.slice (some ⟨jb, joff, none⟩) js.length jc, .slice (some ⟨g2, 0, none⟩) ws.length c2, .bool f2, .int .i64 l2, .slice so2 S2'.length (S2'.length + sc2)] 55, .owns waitE B (fun _ => False) (.slice (some ⟨g2, 0, none⟩) ws.length c2) ws, .rowE intE ps2 so2 S2', .keepF w bp (.slice wo ws.length (ws.length + wsp)), .box bz #[.int .i64 (K : Int), .int .i64 (I : Int), .int .i64 LK, .int .i64 (I : Int), .int .i64 (K : Int), .int .i64 LI] 29] from (HU.out.setAt 0 1 rfl (.slice (some ⟨g2, 0, none⟩) ws.length c2) hbp (by
        simp only [offs, offAll, Fct.box, Fct.rowE, Fct.keepF, Fct.owns, and_true]
        exact ⟨fun e => e.elim (fun e => HG2.out.1 (by simpa [Value.ownBlock] using e)) id, fun e => (HPS2.out bp e).2.1 rfl, fun e => e.2.1 rfl, fun e => by have := HNB.out; omega⟩)).drew)
      have hz11 : bz + 1 ≤ ((w10.setCell ⟨bp, 1, none⟩ (.slice (some ⟨g2, 0, none⟩) ws.length c2)).drew).heap.size := by simp; omega
      clear UD HS e0 e1 hlb FC hw103 hw103' hw104 HU
      try go_wp2_with fail
      go_roundw
      case rel =>
        refine ⟨k + 1, _, f2, l2, so2, S2', sc2, ps2, by omega, by go_num, hz11, UG.out, Lib.hid ⟨HX2.out.1, HX2.out.2.1, ⟨fun e => HG2.out.1 (by simpa [Value.ownBlock] using e), fun b h => ⟨by have := (HPS2.out b h).1; simpa using this, (HPS2.out b h).2.1, fun e => (HPS2.out b h).2.2 (by simpa [Value.ownBlock] using e)⟩⟩, fun b e => ?_, fun e => HG2.out.2.1 (by simpa [Value.ownBlock] using e), HX2.out.2.2⟩⟩
        have e' : g2 = b := by simpa [Value.ownBlock] using e
        subst e'
        exact HG2.out.2.2
      case measure => simp [intOf] <;> omega
    · obtain rfl : k = 2 := by omega
      have HR := Lib.hid (show SRel js ws f l S f1 l1 S1 by
        rcases HC.out.2.2.2.2.2 with ⟨e, _⟩ | ⟨e, _⟩ | ⟨_, h⟩
        · omega
        · omega
        · exact h)
      have SB := Lib.hid T
      clear T
      go_wp2_with fail
      refine bodyPost_ret (v := .tuple #[]) (by simp [results, Try.results16, go_sem]) rfl ?_
      exact ⟨⟨_, rfl⟩, wv1, f1, l1, so1, S1, sc1, ps1, SB.out.pick [0, 1, 2], HR.out, HC.out.1, HC.out.2.1, HC.out.2.2.1, SB.out.keepF 3, by have := HBZ.out; omega, HC.out.2.2.2.1⟩
end Go.Proofs.Ytacaakcpkgipfaa
