/-
  umpiragelaw7.IndexSays returns true for every input (where the arguments are together of bulk at most 1048576), and each argument reads behind the call as it read before.
  Plain: terms set apart by the other's own number of variables can be made one if and only if those set apart by 8 can.
  Walk: umpiragelaw7.indexFault.
  Walks: the same numbers (W.Ints); is a number on a list (W.Has)?
  A region that draws its order: two operations that may come next, each way walked (behind wpH of g4).
  A row of trees copied by append, and written at a place.
  Walks: the document's Fit.
  Walk: the law IndexSays.
-/
import Derived.Test.YtlhnfdjidjgfgaaIm1
import Derived.Test.YtlhnfdjidjgfgaaMu0
import Derived.Test.YtlhnfdjidjgfgaaProg
import Derived.Test.YtlhnfdjidjgfgaaIx
import Derived.Test.YtlhnfdjidjgfgaaT20
import Derived.RegionTactic
import Derived.Test.YtlhnfdjidjgfgaaE6
import Derived.Test.YtlhnfdjidjgfgaaG4
import Derived.Test.YtlhnfdjidjgfgaaSt3
import Derived.Test.YtlhnfdjidjgfgaaXb
import Derived.Test.YtlhnfdjidjgfgaaBase
import Derived.Test.YtlhnfdjidjgfgaaXa
import Derived.Test.YtlhnfdjidjgfgaaXe
import Derived.Test.YtlhnfdjidjgfgaaT33h
import Derived.IntWalk
import Derived.Deep.DeepCutAuto
import Derived.Deep.RegionHeld3
import Derived.Test.YtlhnfdjidjgfgaaRows
import Derived.Test.YtlhnfdjidjgfgaaXo
import Derived.WalkKit
import Derived.ProofKit
import Derived.OpenShut
import Derived.ChangeOld
import Derived.Below
import Derived.JoinedCond
namespace Go.Proofs.Ytlhnfdjidjgfgaa
open Go.RowKit Go.Shelf
set_option linter.unusedVariables false
set_option maxHeartbeats 400000

theorem sh_node (m : Int) (t : T) : ∀ z ∈ (shT m t).pre, ∃ q ∈ t.pre, z = shT m q := by
  induction t using T.ind with
  | h t ih =>
    intro z hz
    rw [shT_eq, T.pre_eq] at hz
    rcases List.mem_cons.1 hz with rfl | hz
    · exact ⟨t, self_pre t, (shT_eq m t).symm⟩
    · obtain ⟨i, hi, h2⟩ := mem_preL hz
      have hi' : i < t.kids.length := by simpa [T.kids, shL_length] using hi
      have h2' : z ∈ (gK (shL m t.kids) i).pre := h2
      rw [gK_shL m hi'] at h2'
      obtain ⟨q, hq, e⟩ := ih i hi' z h2'
      exact ⟨q, by rw [T.pre_eq]; exact List.mem_cons_of_mem _ (kid_pre_mem hi' hq), e⟩
theorem most_le_of {t : T} {b : Int} (hb : 0 ≤ b) (h : ∀ z ∈ t.pre, -z.head ≤ b) : t.most ≤ b := by
  have h1 := maxV_pre t 0 (by omega)
  have key : ∀ (l : List T) (m : Int), m ≤ b → (∀ x ∈ l, -x.head ≤ b) → maxV l m ≤ b := by
    intro l
    induction l with
    | nil => intro m hm _; simpa [maxV] using hm
    | cons x r ih =>
      intro m hm hx
      have h2 := hx x (by simp)
      simp only [maxV]
      exact ih _ (by omega) (fun y hy => hx y (List.mem_cons_of_mem _ hy))
  have h2 := key t.pre 0 hb h
  have h3 := t.most_nonneg
  omega
theorem low_of_heads (t : T) : (∀ z ∈ t.pre, -1000 ≤ z.head) → t.low := by
  induction t using T.ind with
  | h t ih =>
    intro h
    rw [T.low_eq]
    exact ⟨h t (self_pre t), fun i hi => ih i hi (fun z hz => h z (by rw [T.pre_eq]; exact List.mem_cons_of_mem _ (kid_pre_mem hi hz)))⟩
theorem sh_head (m : Int) (q : T) : (shT m q).head = if q.head < 0 then q.head - m else q.head := by rw [shT_eq]; rfl
theorem sh_kids (m : Int) (q : T) : (shT m q).kids = shL m q.kids := by rw [shT_eq]; rfl
structure ShOk (t s : T) (N : Nat) : Prop where
  mg : MG N t s [(t, s)] vT
  nz : NZ t s
  sml : Sml t s
  le : N ≤ 100
theorem sh_low {x : T} (hx : (treeF x).1 = 0) (m : Nat) (hm : m ≤ 8) : (shT m x).low := low_of_heads _ fun z hz => by
  obtain ⟨q, hq, rfl⟩ := sh_node m x z hz
  have h1 := okN_num ((ok_parts hx).1 q hq)
  rw [sh_head]; split <;> omega
theorem sh_start {x t : T} {N : Nat} (hx : (treeF x).1 = 0) (ht : (treeF t).1 = 0) (m : Nat) (hm : m ≤ 8) (h1N : t.most ≤ (N : Int)) (h2N : (shT m x).most ≤ (N : Int)) (hN : N ≤ 100) : ShOk t (shT m x) N := by
  obtain ⟨ox, sx, dx⟩ := ok_parts hx
  obtain ⟨ot, st', dt⟩ := ok_parts ht
  have hx' : ∀ z ∈ (shT m x).pre, z.head ≠ 0 ∧ z.kids.length ≤ 3 ∧ (z.head < 0 → z.kids = []) := fun z hz => by
    obtain ⟨q, hq, rfl⟩ := sh_node m x z hz
    have h1 := okN_num (ox q hq)
    rw [sh_head, sh_kids, shL_length]
    refine ⟨by split <;> omega, h1.2.2.2.1, fun h => ?_⟩
    have : q.kids.length = 0 := h1.2.2.2.2 (by by_cases e : q.head < 0; exact e; rw [if_neg e] at h; exact h)
    exact List.eq_nil_of_length_eq_zero (by rw [shL_length]; exact this)
  have vt : VA N t := ⟨fun z hz hn => by
    have h1 := okN_num (ot z hz)
    have h2 := head_le_most t z hz
    exact ⟨List.eq_nil_of_length_eq_zero (h1.2.2.2.2 hn), by unfold vI; omega⟩, by omega⟩
  have vs : VA N (shT m x) := ⟨fun z hz hn => by
    have h2 := head_le_most (shT m x) z hz
    exact ⟨(hx' z hz).2.2 hn, by unfold vI; omega⟩, by rw [sh_size]; omega⟩
  refine ⟨MG.start vt.lv vs.lv (fun y hy => has_lt vt hy) (fun y hy => has_lt vs hy), fun q hq => ?_, ⟨st', by rw [sh_size]; exact sx, fun q hq => ?_⟩, hN⟩
  · rcases List.mem_append.1 hq with h | h
    · exact (okN_num (ot q h)).1
    · exact (hx' q h).1
  · rcases List.mem_append.1 hq with h | h
    · exact (okN_num (ot q h)).2.2.2.1
    · exact (hx' q h).2.1
theorem sh_most {x : T} (hx : (treeF x).1 = 0) (m : Nat) (hm : m ≤ 8) : (shT m x).most ≤ 16 := most_le_of (by omega) fun z hz => by
  obtain ⟨q, hq, rfl⟩ := sh_node m x z hz
  have h1 := okN_num ((ok_parts hx).1 q hq)
  rw [sh_head]; split <;> omega
open Classical in
theorem meet_law {x t : T} {N c : Nat} {L : List T} (hx : (treeF x).1 = 0) (ht : (treeF t).1 = 0) (m : Nat) (hm : (m : Int) = t.most) (k : MguAns t (shT m x) N L c) :
    c = 3 ∨ (c ≠ 3 ∧ decide ((c : Int) > 0) = decide (Meets x t)) := by
  have vt : VA m t := ⟨fun z hz hn => by
    have h1 := okN_num ((ok_parts ht).1 z hz)
    have h2 := head_le_most t z hz
    exact ⟨List.eq_nil_of_length_eq_zero (h1.2.2.2.2 hn), by unfold vI; omega⟩, by have := (ok_parts ht).2.1; omega⟩
  have hlx : LV x := (ok_va hx).lv
  rcases k with ⟨rfl, _, hn⟩ | ⟨rfl, _⟩ | ⟨τ, hmg, k⟩
  · refine .inr ⟨by omega, ?_⟩
    rw [decide_eq_false (p := (((0 : Nat) : Int) > 0)) (by omega)]
    refine (decide_eq_false fun h => ?_).symm
    obtain ⟨θ, hθ⟩ := (meets_iff hx).1 h
    refine hn (fun i => if i < m then θ i else θ (i - m + 8)) ?_
    rw [shT_inst hlx]
    have h1 : x.inst (fun i => (fun i => if i < m then θ i else θ (i - m + 8)) (i + m)) = x.inst (fun i => θ (i + 8)) := inst_congr x (fun i hi => by
      show (if i + m < m then θ (i + m) else θ (i + m - m + 8)) = θ (i + 8)
      rw [if_neg (by omega)]; congr 1; omega)
    have h2 : t.inst (fun i => if i < m then θ i else θ (i - m + 8)) = t.inst θ := inst_congr t (fun i hi => if_pos (has_lt vt hi))
    rw [h1, h2, hθ]
  · exact .inl rfl
  · have hs := hmg.canon.sol
    have hM : Meets x t := by
      refine (meets_iff hx).2 ⟨fun i => if i < 8 then τ i else τ (i - 8 + m), ?_⟩
      have h8 : ∀ i, t.has i → i < 8 := fun i hi => has_lt (ok_va ht) hi
      have h1 : x.inst (fun i => (fun i => if i < 8 then τ i else τ (i - 8 + m)) (i + 8)) = x.inst (fun i => τ (i + m)) := inst_congr x (fun i hi => by
        show (if i + 8 < 8 then τ (i + 8) else τ (i + 8 - 8 + m)) = τ (i + m)
        rw [if_neg (by omega)]; congr 1)
      have h2 : t.inst (fun i => if i < 8 then τ i else τ (i - 8 + m)) = t.inst τ := inst_congr t (fun i hi => if_pos (h8 i hi))
      rw [h1, h2]
      have hs' : t.inst τ = (shT m x).inst τ := hs
      rw [shT_inst hlx] at hs'
      exact hs'.symm
    rcases k with ⟨rfl, _⟩ | ⟨rfl, _⟩
    · exact .inr ⟨by omega, by rw [decide_eq_true hM]; rfl⟩
    · exact .inr ⟨by omega, by rw [decide_eq_true hM]; rfl⟩
end Go.Proofs.Ytlhnfdjidjgfgaa
namespace Go.Proofs.Ytlhnfdjidjgfgaa
open Go.RowKit Go.Shelf
set_option linter.unusedVariables false
set_option maxHeartbeats 400000

set_option maxRecDepth 100000 in
set_option maxHeartbeats 4000000 in
theorem indexFault42 (ao : Option Addr) (ks : List T) (c : Nat) (t : T) (v : Value) (w : World) (hn : ks.length ≤ 80) (hr : RowAt w ao ks) (ht : TreeAt w v t) (hks : ∀ i, i < ks.length → (gK ks i).size ≤ 200) (hts : t.size ≤ 200) :
    Calls Try.prog 42 #[.slice ao ks.length c, v] w fun e w' => e = .returned (FV (findF ks t)) ∧ Below w.heap.size w w' := by
  obtain ⟨tk, ts, rfl⟩ := ht.form
  have HR := Lib.hid hr; have HT := Lib.hid ht; have HKS := Lib.hid hks
  obtain ⟨bx, hbx⟩ : ∃ b, b = w.heap.size := ⟨_, rfl⟩
  have S1 := ((St.start w).box hbx.symm #[.int .i64 t.head, .slice tk t.kids.length (t.kids.length + ts)] 38).box (b := bx + 1) (by simp [hbx]) #[.int .i64 0, .int .i64 0] 29
  have hsz2 : ((w.alloc (.cells #[.int .i64 t.head, .slice tk t.kids.length (t.kids.length + ts)] 38)).alloc (.cells #[.int .i64 0, .int .i64 0] 29)).heap.size = bx + 2 := by simp [hbx]
  have HBX := Lib.hid hbx
  clear hr ht hks
  have hfld := field28_0
  go_enter Try.func42, Try.ntmps42
  by_cases h60 : 60 < ks.length
  · have h60i : (60 : Int) < (ks.length : Int) := by omega
    have HFF := Lib.hid (show findF ks t = (2, -1) from if_pos h60)
    go_wp2_with fail
    rw [← hbx]
    refine St.gen S1 (z := bx + 2) (by omega) ?_
    intro w1 z1 S
    clear S1 hsz2 hbx h60 h60i
    refine (S.quiet (fault20 2 (-1) w1)).mono ?_
    rintro e w2 ⟨rfl, z2, S2⟩
    obtain ⟨⟨x0, x1⟩, x2, x3⟩ := S2.two 1
    have hl := S2.lt 1
    have SG := Lib.hid (S2.set2 1 rfl (.int .i64 2) (.int .i64 (-1)) (by have := HBX.out; omega) (by simp only [fsnoc, offs, offAll, Fct.box, and_true]; omega))
    clear S S2
    go_wp2_with fail
    refine bodyPost_ret (v := .agg #[.int .i64 2, .int .i64 (-1)]) ?_ rfl ?_
    · obtain ⟨⟨z0, _⟩, z1, _⟩ := SG.out.two 1
      simp [results, Try.results42, go_sem, z0, z1]
    · exact ⟨by rw [HFF.out] <;> rfl, SG.out.bel⟩
  · have h60i : ¬ (60 : Int) < (ks.length : Int) := by omega
    have HFF := Lib.hid (show findF ks t = if (firstT ks 0).1 ≠ 0 then firstT ks 0 else if (treeF t).1 ≠ 0 then ((treeF t).1, -2) else (0, 0) from if_neg h60)
    go_wp2_with fail
    rw [← hbx]
    refine S1.genC (z := bx + 2) (by omega) ?_
    intro w1 z1 S
    clear S1 hsz2 hbx h60 h60i
    change St w w1 [.box bx #[.int .i64 t.head, .slice tk t.kids.length (t.kids.length + ts)] 38, .box (bx + 1) #[.int .i64 0, .int .i64 0] 29] at S
    go_loopw [5] (fun i wr => ∃ k : Nat, k ≤ ks.length ∧ i = .int .i64 k ∧ Hid (∀ j, j < k → (treeF (gK ks j)).1 = 0) ∧ bx + 2 ≤ wr.heap.size ∧ St w wr [.box bx #[.int .i64 t.head, .slice tk t.kids.length (t.kids.length + ts)] 38, .box (bx + 1) #[.int .i64 0, .int .i64 0] 29]) (fun i _ => ks.length - (intOf i).toNat)
    case atStart => exact ⟨0, by omega, rfl, (fun j h => by omega), z1, S⟩
    case round =>
      clear S z1
      obtain ⟨k, hk, rfl, HNO, z1, S⟩ := hrel
      by_cases hlt : k < ks.length
      · have hlti : (k : Int) < (ks.length : Int) := by omega
        obtain ⟨b, off, ko, ksp, rfl, c0w, c1w, c2w⟩ := HR.out k hlt
        have c0 := Below.cellOf S.bel c0w
        have c1 := Below.cellOf S.bel c1w
        have HKT := Lib.hid c2w
        clear c0w c1w c2w
        go_wp2_with fail
        refine (S.fault (f := treeF (gK ks k)) (tree18 (gK ks k) _ wr (by have := HKS.out k hlt; omega) (HKT.out.kept S.bel))).mono ?_
        rintro e wb ⟨fc, fd, rfl, HFC, zb, SC⟩
        obtain ⟨bf, hbf⟩ : ∃ q, q = wb.heap.size := ⟨_, rfl⟩
        have SD := SC.box (b := bf) hbf.symm #[.int .i64 fc, .int .i64 fd] 29
        have HBF := Lib.hid (show bx + 2 ≤ bf by omega)
        clear S SC c0 c1
        go_upto_region 7 with fail
        rw [← hbf]
        refine SD.genC (z := bf + 1) (by simp [hbf]) ?_
        intro wd zd SE
        clear SD hbf
        obtain ⟨⟨u0, u1⟩, u2, u3⟩ := SE.two 2
        cases hfc : (fc != 0) with
        | true =>
          have HF2 := Lib.hid (show findF ks t = (fc, (k : Int)) by
            have h := firstT_hit (a := 0) HNO.out hlt (by rw [HFC.out]; simpa using hfc)
            rw [HFC.out] at h
            rw [HFF.out, h, if_pos (by simpa using hfc)]; simp)
          go_wp2_with fail
          refine (SE.quiet (fault20 fc k wd)).mono ?_
          rintro e w3 ⟨rfl, z3, S3⟩
          obtain ⟨⟨x0, x1⟩, x2, x3⟩ := S3.two 1
          have hl := S3.lt 1
          have SG := Lib.hid (S3.set2 1 rfl (.int .i64 fc) (.int .i64 k) (by have := HBX.out; omega) (by have := HBF.out; simp only [fsnoc, offs, offAll, Fct.box, and_true]; omega))
          clear SE S3 u0 u1 u2 u3
          go_wp2_with fail
          refine bodyPost_ret (v := .agg #[.int .i64 fc, .int .i64 k]) ?_ rfl ?_
          · obtain ⟨⟨z0, _⟩, z1, _⟩ := SG.out.two 1
            simp [results, Try.results42, go_sem, z0, z1]
          · exact ⟨by rw [HF2.out] <;> rfl, SG.out.bel⟩
        | false =>
          have HNO2 := Lib.hid (show ∀ j, j < k + 1 → (treeF (gK ks j)).1 = 0 from fun j hj => by
            by_cases e : j = k
            · subst e; rw [HFC.out]; simpa using hfc
            · exact HNO.out j (by omega))
          have SG := Lib.hid (SE.pick [0, 1])
          have zg : bx + 2 ≤ wd.heap.size := by have := HBF.out; omega
          clear SE
          go_wp2_with fail
          go_roundw
          case rel => exact ⟨k + 1, by omega, by go_num, HNO2, zg, SG.out⟩
          case measure => simp [intOf] <;> omega
      · obtain rfl : k = ks.length := by omega
        have HFK := Lib.hid (show findF ks t = if (treeF t).1 ≠ 0 then ((treeF t).1, -2) else (0, 0) by rw [HFF.out, firstT_none HNO.out]; simp)
        obtain ⟨⟨x0, _⟩, x1, _⟩ := S.two 0
        go_wp2_with fail
        refine (S.fault (f := treeF t) (tree18 t _ wr (by omega) (HT.out.kept S.bel))).mono ?_
        rintro e w3 ⟨tc, td, rfl, HTC, z3, S3⟩
        clear S x0 x1
        cases htc : (tc != 0) with
        | true =>
          have HFN := Lib.hid (show tc ≠ 0 by simpa using htc)
          have HF2 := Lib.hid (show findF ks t = (tc, -2) by rw [HFK.out, if_pos (by rw [HTC.out]; exact HFN.out), HTC.out])
          obtain ⟨⟨x0, _⟩, x1, _⟩ := S3.two 0
          go_wp2_with fail
          refine (S3.fault (f := treeF t) (tree18 t _ w3 (by omega) (HT.out.kept S3.bel))).mono ?_
          rintro e w4 ⟨tc', td', rfl, HTC', z4, S4⟩
          obtain ⟨rfl, rfl⟩ : tc = tc' ∧ td = td' := by have h := HTC'.out; rw [HTC.out] at h; simpa using h
          clear S3 x0 x1
          go_wp2_with fail
          refine (S4.quiet (fault20 tc (-2) w4)).mono ?_
          rintro e w5 ⟨rfl, z5, S5⟩
          obtain ⟨⟨x0, x1⟩, x2, x3⟩ := S5.two 1
          have hl := S5.lt 1
          have SG := Lib.hid (S5.set2 1 rfl (.int .i64 tc) (.int .i64 (-2)) (by have := HBX.out; omega) (by simp only [offs, offAll, Fct.box, and_true]; omega))
          clear S4 S5
          go_wp2_with fail
          refine bodyPost_ret (v := .agg #[.int .i64 tc, .int .i64 (-2)]) ?_ rfl ?_
          · obtain ⟨⟨z0, _⟩, z1, _⟩ := SG.out.two 1
            simp [results, Try.results42, go_sem, z0, z1]
          · exact ⟨by rw [HF2.out] <;> rfl, SG.out.bel⟩
        | false =>
          have hT0 : tc = 0 := by simpa using htc
          have HF2 := Lib.hid (show findF ks t = (0, 0) by rw [HFK.out, if_neg (by rw [HTC.out]; simpa using hT0)])
          clear hT0
          obtain ⟨⟨x0, x1⟩, x2, x3⟩ := S3.two 1
          have hl := S3.lt 1
          have SG := Lib.hid (S3.set2 1 rfl (.int .i64 0) (.int .i64 0) (by have := HBX.out; omega) (by simp only [offs, offAll, Fct.box, and_true]; omega))
          clear S3
          go_wp2_with fail
          refine bodyPost_ret (v := .agg #[.int .i64 0, .int .i64 0]) ?_ rfl ?_
          · obtain ⟨⟨z0, _⟩, z1, _⟩ := SG.out.two 1
            simp [results, Try.results42, go_sem, z0, z1]
          · exact ⟨by rw [HF2.out] <;> rfl, SG.out.bel⟩
end Go.Proofs.Ytlhnfdjidjgfgaa
namespace Go.Proofs.Ytlhnfdjidjgfgaa
open Go.RowKit Go.Shelf
set_option linter.unusedVariables false
set_option maxHeartbeats 400000

set_option maxRecDepth 100000 in
set_option maxHeartbeats 4000000 in
theorem ints56 (a b : List Int) (p q : Nat → Prop) (ao bo : Option Addr) (ca cb : Nat) (w : World) (ha : intE.Row p w ao a) (hb : intE.Row q w bo b) (hla : a.length ≤ 1000000000) (hlb : b.length ≤ 1000000000) :
    Calls Try.prog 48 #[.slice ao a.length ca, .slice bo b.length cb] w fun e w' => e = .returned (.bool (decide (a = b))) ∧ Below w.heap.size w w' := by
  have HA := Lib.hid ha; have HB := Lib.hid hb
  clear ha hb
  by_cases hne : a.length = b.length
  · have hnei : (a.length : Int) = (b.length : Int) := by omega
    have hneb : ((a.length : Int) != (b.length : Int)) = false := by simp [hnei]
    have HNE := Lib.hid hne
    clear hne hnei
    go_enter Try.func48, Try.ntmps48
    go_wp2_with fail
    go_loopw [5] (fun i wr => ∃ k : Nat, k ≤ a.length ∧ i = .int .i64 k ∧ (∀ (j : Nat), j < k → a[j]? = b[j]?) ∧ Below w.heap.size w wr) (fun i _ => a.length - (intOf i).toNat)
    case atStart => exact ⟨0, by omega, rfl, fun j hj => by omega, Below.refl _ _⟩
    case round =>
      obtain ⟨k, hk, rfl, heq, hbel⟩ := hrel
      have HEQ := Lib.hid heq
      have HBL := Lib.hid hbel
      clear heq hbel
      by_cases hlt : k < a.length
      · have hlti : (k : Int) < (a.length : Int) := by omega
        have hlt2 : k < b.length := by have := HNE.out; omega
        have hlti2 : (k : Int) < (b.length : Int) := by omega
        obtain ⟨ba, oa, rfl, _, c0⟩ := (HA.out.kept HBL.out).int hlt
        obtain ⟨bb, ob, rfl, _, d0⟩ := (HB.out.kept HBL.out).int hlt2
        obtain ⟨X, hX⟩ : ∃ X, X = a[k] := ⟨_, rfl⟩
        obtain ⟨Y, hY⟩ : ∃ Y, Y = b[k] := ⟨_, rfl⟩
        rw [← hX] at c0
        rw [← hY] at d0
        have HXK := Lib.hid (show a[k]? = some X by rw [hX]; exact List.getElem?_eq_getElem hlt)
        have HYK := Lib.hid (show b[k]? = some Y by rw [hY]; exact List.getElem?_eq_getElem hlt2)
        clear hX hY
        have r0 := cell_regrown c0; have r1 := cell_regrown d0
        go_wp2_with fail
        clear c0 d0
        refine wp_region_quiet_below (by kernel_rfl) (by kernel_rfl) ?_
        repeat (go_big_quiet_step (fail))
        refine wpQuiet_nil ?_
        intro _ hw'
        obtain ⟨⟨dq, osq⟩, hw''⟩ := hw'
        subst hw''
        have HBL2 := Lib.hid (Below.step HBL.out (below_regrown wr dq osq))
        clear r0 r1
        by_cases hXY : X = Y
        · have hXb : (X != Y) = false := by simp [hXY]
          have HEQ2 := Lib.hid (show ∀ (j : Nat), j < k + 1 → a[j]? = b[j]? from fun j hj => by
            rcases Nat.lt_succ_iff_lt_or_eq.1 hj with h | rfl
            · exact HEQ.out j h
            · rw [HXK.out, HYK.out, hXY])
          clear hXY
          go_wp2_with fail
          go_roundw
          case rel => exact ⟨k + 1, by omega, by go_num, HEQ2.out, HBL2.out⟩
          case measure => simp [intOf] <;> omega
        · have hXb : (X != Y) = true := by simpa using hXY
          have HF := Lib.hid (show decide (a = b) = false by
            rw [decide_eq_false_iff_not]
            intro e
            have h1 := HXK.out
            rw [e, HYK.out] at h1
            exact hXY (Option.some.inj h1).symm)
          clear hXY
          go_wp2_with fail
          go_ret
          exact ⟨ret_bool HF.out.symm, HBL2.out⟩
      · obtain rfl : k = a.length := by omega
        have HF := Lib.hid (show decide (a = b) = true by
          rw [decide_eq_true_iff]
          apply List.ext_getElem?
          intro j
          by_cases hj : j < a.length
          · exact HEQ.out j hj
          · rw [List.getElem?_eq_none (by omega), List.getElem?_eq_none (by have := HNE.out; omega)])
        go_wp2_with fail
        go_ret
        exact ⟨ret_bool HF.out.symm, HBL.out⟩
  · have hneb : ((a.length : Int) != (b.length : Int)) = true := by simp; omega
    have HF := Lib.hid (show decide (a = b) = false by
      rw [decide_eq_false_iff_not]
      intro e; exact hne (by rw [e]))
    clear hne
    go_enter Try.func48, Try.ntmps48
    go_wp2_with fail
    go_ret
    exact ⟨ret_bool HF.out.symm, Below.refl _ _⟩


set_option maxRecDepth 100000 in
set_option maxHeartbeats 4000000 in
theorem has49 (a : List Int) (x : Int) (p : Nat → Prop) (ao : Option Addr) (ca : Nat) (w : World) (ha : intE.Row p w ao a) (hla : a.length ≤ 1000000000) :
    Calls Try.prog 49 #[.slice ao a.length ca, .int .i64 x] w fun e w' => e = .returned (.bool (decide (x ∈ a))) ∧ Below w.heap.size w w' := by
  have HA := Lib.hid ha
  clear ha
  go_enter Try.func49, Try.ntmps49
  go_wp2_with fail
  go_loopw [5] (fun i wr => ∃ k : Nat, k ≤ a.length ∧ i = .int .i64 k ∧ Hid (∀ (j : Nat) y, j < k → a[j]? = some y → y ≠ x) ∧ Below w.heap.size w wr) (fun i _ => a.length - (intOf i).toNat)
  case atStart => exact ⟨0, by omega, rfl, (fun j y hj => by omega), Below.refl _ _⟩
  case round =>
    obtain ⟨k, hk, rfl, HNO, hbel⟩ := hrel
    have HBL := Lib.hid hbel
    clear hbel
    by_cases hlt : k < a.length
    · have hlti : (k : Int) < (a.length : Int) := by omega
      obtain ⟨ba, oa, rfl, _, c0⟩ := (HA.out.kept HBL.out).int hlt
      obtain ⟨X, hX⟩ : ∃ X, X = a[k] := ⟨_, rfl⟩
      rw [← hX] at c0
      have HXK := Lib.hid (show a[k]? = some X by rw [hX]; exact List.getElem?_eq_getElem hlt)
      clear hX
      by_cases he : X = x
      · have heb : (X == x) = true := by simp [he]
        have HE := Lib.hid (show decide (x ∈ a) = true from decide_eq_true (by rw [← he]; exact List.mem_of_getElem? HXK.out))
        clear he
        go_wp2_with fail
        go_ret
        exact ⟨ret_bool HE.out.symm, HBL.out⟩
      · have heb : (X == x) = false := by simp [he]
        have HNO2 := Lib.hid (show ∀ (j : Nat) y, j < k + 1 → a[j]? = some y → y ≠ x from fun j y hj hy => by
          by_cases e : j = k
          · subst e; rw [HXK.out] at hy; obtain rfl := Option.some.inj hy; exact he
          · exact HNO.out j y (by omega) hy)
        clear he
        go_wp2_with fail
        go_roundw
        case rel => exact ⟨k + 1, by omega, by go_num, HNO2, HBL.out⟩
        case measure => simp [intOf] <;> omega
    · obtain rfl : k = a.length := by omega
      have HE := Lib.hid (show decide (x ∈ a) = false from decide_eq_false (fun h => by
        obtain ⟨j, hj, e⟩ := List.getElem_of_mem h
        exact HNO.out j _ hj (List.getElem?_eq_getElem hj) e))
      go_wp2_with fail
      go_ret
      exact ⟨ret_bool HE.out.symm, HBL.out⟩
end Go.Proofs.Ytlhnfdjidjgfgaa
namespace Go.Proofs.Ytlhnfdjidjgfgaa
open Go.RowKit
set_option linter.unusedVariables false

section
variable {P : Program} {ops : Array Oper} {Q : Exit → Act → World → Prop} {md : Region.Mode} {S : World → Prop} {sts : List Nat}
/-- numbers i and j are those that may come -/
theorem wpH.two {i j fuel : Nat} {listed : Array Bool} {a : Act} {w : World} (hr : Region.ready md ops listed = [i, j])
    (h : ∀ o, ops[i]? = some o → ∀ K' : Act → World → Prop, (∀ b W, (i ∉ sts → S W) → wpH P md ops Q S sts fuel (listed.setIfInBounds i true) b W → K' b W) → if Region.wanted o (yielded ops a.tmps) = true then Oper.wp P o a w K' Q else K' (a.put o.dst undef) w)
    (h2 : ∀ o, ops[j]? = some o → ∀ K' : Act → World → Prop, (∀ b W, (j ∉ sts → S W) → wpH P md ops Q S sts fuel (listed.setIfInBounds j true) b W → K' b W) → if Region.wanted o (yielded ops a.tmps) = true then Oper.wp P o a w K' Q else K' (a.put o.dst undef) w) : wpH P md ops Q S sts (fuel + 1) listed a w := by
  refine ⟨fun e => (by rw [hr] at e; cases e), fun k hk => ?_⟩
  have hm : k ∈ Region.ready md ops listed := hk
  obtain ⟨_, o, ho, _⟩ := mem_ready.1 hm
  rw [hr] at hk
  have hk2 : k = i ∨ k = j := by simpa using hk
  rcases hk2 with rfl | rfl
  · exact wpOp_step ho fun K' hK => h o ho K' fun b W h1 h2 => hK _ _ ⟨h1, h2⟩
  · exact wpOp_step ho fun K' hK => h2 o ho K' fun b W h1 h2 => hK _ _ ⟨h1, h2⟩
end
end Go.Proofs.Ytlhnfdjidjgfgaa
namespace Go.Proofs.Ytlhnfdjidjgfgaa
open Go.RowKit Go.Shelf
set_option linter.unusedVariables false

/-- the cells of a row of trees -/
theorem RowP.cells {p : Nat → Prop} {w : World} {ao : Option Addr} {ks : List T} (h : RowP p w ao ks) :
    ∃ cs : List Value, cs.length = ks.length * 2 ∧ (∀ i, i < ks.length → ∃ k sp, cs[i * 2]? = some (.int .i64 (gK ks i).head) ∧ cs[i * 2 + 1]? = some (.slice k (gK ks i).kids.length ((gK ks i).kids.length + sp)) ∧
        TreeP p w (.agg #[.int .i64 (gK ks i).head, .slice k (gK ks i).kids.length ((gK ks i).kids.length + sp)]) (gK ks i)) ∧
      (∀ ad, ao = some ad → ∀ j u, cs[j]? = some u → w.cell? (ad.add j) = some u) ∧ ∀ u ∈ cs, u.oneCell' = true := by
  have hc : ∀ i, ∃ k : Option Addr, ∃ sp : Nat, i < ks.length → (∃ b off, ao = some ⟨b, off, none⟩ ∧ w.cell? ⟨b, off + i * 2, none⟩ = some (.int .i64 (gK ks i).head) ∧ w.cell? ⟨b, off + i * 2 + 1, none⟩ = some (.slice k (gK ks i).kids.length ((gK ks i).kids.length + sp))) ∧
      TreeP p w (.agg #[.int .i64 (gK ks i).head, .slice k (gK ks i).kids.length ((gK ks i).kids.length + sp)]) (gK ks i) := fun i => by
    by_cases hi : i < ks.length
    · obtain ⟨b, off, k, sp, e, hp, h1, h2, h3⟩ := h i hi
      exact ⟨k, sp, fun _ => ⟨⟨b, off, e, h1, h2⟩, h3⟩⟩
    · exact ⟨none, 0, fun h => absurd h hi⟩
  obtain ⟨K, hK⟩ := Classical.axiomOfChoice hc
  obtain ⟨SP, hSP⟩ := Classical.axiomOfChoice hK
  let c : Nat → Value := fun j => if j % 2 = 0 then .int .i64 (gK ks (j / 2)).head else .slice (K (j / 2)) (gK ks (j / 2)).kids.length ((gK ks (j / 2)).kids.length + SP (j / 2))
  refine ⟨(List.range (ks.length * 2)).map c, by simp, fun i hi => ⟨K i, SP i, ?_, ?_, (hSP i hi).2⟩, fun ad he j u hu => ?_, fun u hu => ?_⟩
  · have e1 : i * 2 % 2 = 0 := by omega
    have e2 : i * 2 / 2 = i := by omega
    rw [List.getElem?_map, List.getElem?_range (by omega)]
    simp only [Option.map_some, c, e1, if_pos, e2]
  · have e1 : ¬ (i * 2 + 1) % 2 = 0 := by omega
    have e2 : (i * 2 + 1) / 2 = i := by omega
    rw [List.getElem?_map, List.getElem?_range (by omega)]
    simp only [Option.map_some, c, if_neg e1, e2]
  · have hj : j < ks.length * 2 := by have := (List.getElem?_eq_some_iff.1 hu).1; simpa using this
    rw [List.getElem?_map, List.getElem?_range hj] at hu
    simp only [Option.map_some, Option.some.injEq] at hu
    obtain ⟨⟨b, off, e, h1, h2⟩, _⟩ := hSP (j / 2) (by omega)
    rw [he] at e
    obtain rfl := Option.some.inj e
    rw [Addr.add_lit, ← hu]
    by_cases hj2 : j % 2 = 0
    · simp only [c, if_pos hj2]
      rw [← h1]; congr 2; omega
    · simp only [c, if_neg hj2]
      rw [← h2]; congr 2; omega
  · simp only [List.mem_map] at hu
    obtain ⟨j, _, rfl⟩ := hu
    simp only [c]
    split <;> rfl
theorem gK_set_same {ks : List T} {j : Nat} {t : T} (hj : j < ks.length) : gK (ks.set j t) j = t := by simp [gK, hj]
theorem gK_set_other {ks : List T} {i j : Nat} {t : T} (h : i ≠ j) : gK (ks.set j t) i = gK ks i := by simp [gK, List.getElem?_set_ne (fun e => h e.symm)]
/-- a place of an own row is written -/
theorem RowOwn.set {p : Nat → Prop} {B : Nat} {w : World} {g cap : Nat} {ks : List T} (h : RowOwn p B w (.slice (some ⟨g, 0, none⟩) ks.length cap) ks) {j : Nat} (hj : j < ks.length) {t : T} {k : Option Addr} {sp : Nat}
    (ht : TreeP (fun b => p b ∧ b ≠ g) w (.agg #[.int .i64 t.head, .slice k t.kids.length (t.kids.length + sp)]) t) :
    RowOwn p B ((w.setCell ⟨g, j * 2, none⟩ (.int .i64 t.head)).setCell ⟨g, j * 2 + 1, none⟩ (.slice k t.kids.length (t.kids.length + sp))) (.slice (some ⟨g, 0, none⟩) ks.length cap) (ks.set j t) := by
  obtain ⟨cs, h1, h2⟩ := h
  have hcl : cs.length = ks.length * 2 := h1.1
  have h3 := ((h1.stored (j * 2) (.int .i64 t.head)).1.stored (j * 2 + 1) (.slice k t.kids.length (t.kids.length + sp))).1
  refine ⟨_, by rw [List.length_set]; exact h3, fun i hi => ?_⟩
  rw [List.length_set] at hi
  have hne : ∀ b, b ≠ g ↔ (Value.slice (some ⟨g, 0, none⟩) ks.length cap).ownBlock ≠ some b := fun b => by simp [Value.ownBlock, eq_comm]
  by_cases e : i = j
  · subst e
    rw [gK_set_same hi]
    refine ⟨k, sp, ?_, ?_, ?_⟩
    · rw [List.getElem?_set_ne (by omega), List.getElem?_set_self (by omega)]
    · rw [List.getElem?_set_self (by simp; omega)]
    · exact ((ht.setCell (a := ⟨g, i * 2, none⟩) (fun h => h.2 rfl) _).setCell (a := ⟨g, i * 2 + 1, none⟩) (fun h => h.2 rfl) _).mono (fun b h _ => ⟨h.1, (hne b).1 h.2⟩)
  · obtain ⟨k', sp', e1, e2, e3⟩ := h2 i hi
    rw [gK_set_other e]
    have e4 := e3.mono (q := fun b => p b ∧ b ≠ g) (fun b h _ => ⟨h.1, (hne b).2 h.2⟩)
    refine ⟨k', sp', ?_, ?_, ((e4.setCell (a := ⟨g, j * 2, none⟩) (fun h => h.2 rfl) _).setCell (a := ⟨g, j * 2 + 1, none⟩) (fun h => h.2 rfl) _).mono (fun b h _ => ⟨h.1, (hne b).1 h.2⟩)⟩
    · rw [List.getElem?_set_ne (by omega), List.getElem?_set_ne (by omega)]; exact e1
    · rw [List.getElem?_set_ne (by omega), List.getElem?_set_ne (by omega)]; exact e2
end Go.Proofs.Ytlhnfdjidjgfgaa
namespace Go.Proofs.Ytlhnfdjidjgfgaa
open Go.RowKit Go.Shelf
set_option linter.unusedVariables false
set_option maxHeartbeats 400000

theorem listT_set {n j : Nat} {bs : Nat → T} {t : T} (hj : j < n) : (listT n bs).set j t = listT n (setT bs j t) := by
  apply List.ext_getElem (by simp [listT])
  intro i h1 h2
  simp only [listT, List.getElem_set, List.getElem_map, List.getElem_range, setT]
  by_cases e : i = j
  · subst e; simp
  · rw [if_neg (fun h => e h.symm), if_neg e]
def FitPost (p t : T) (bs : Nat → T) (n : Nat) (p0 : Nat → Prop) (w : World) (e : Ending) (w' : World) : Prop :=
  ∃ ro rc, e = .returned (.tuple #[.slice ro n rc, .bool (p.fit t bs).isSome]) ∧ (∀ r, p.fit t bs = some r → RowP (fun b => p0 b ∨ w.heap.size ≤ b) w' ro (listT n r)) ∧ Below w.heap.size w w'

set_option maxRecDepth 100000 in
set_option maxHeartbeats 8000000 in
theorem fit35 (n : Nat) (p : T) : ∀ (t : T) (bs : Nat → T) (p0 : Nat → Prop) (v u : Value) (bo : Option Addr) (bc : Nat) (w : World), (∀ b, p0 b → b < w.heap.size) → TreeP p0 w v p → TreeP p0 w u t → RowP p0 w bo (listT n bs) → p.most ≤ n → n ≤ 1000000 →
    Calls Try.prog 46 #[v, u, .slice bo n bc] w (FitPost p t bs n p0 w) := by
  induction p using T.ind with
  | h p ih =>
  intro t bs p0 v u bo bc w hp0 htp htt hrb hm hn
  obtain ⟨po, psp, rfl, hrp, hmp⟩ := htp.open
  obtain ⟨tq, tsp, rfl, hrt, hmt⟩ := htt.open
  have hmp : p.kids.length ≤ 9223372036854775807 := hmp
  have hmt : t.kids.length ≤ 9223372036854775807 := hmt
  have S1 := ((St.start w).box rfl #[.int .i64 p.head, .slice po p.kids.length (p.kids.length + psp)] 38).box (b := w.heap.size + 1) (by simp) #[.int .i64 t.head, .slice tq t.kids.length (t.kids.length + tsp)] 38
  have hm0 := head_most p
  have IH := Lib.hid ih; have HP0 := Lib.hid hp0; have HRB := Lib.hid hrb
  have HRP := Lib.hid hrp; have HRT := Lib.hid hrt; have HM := Lib.hid hm; have HTT := Lib.hid htt
  have HFE := Lib.hid (T.fit_eq p t bs)
  clear ih hrp hrt htp htt hrb hp0
  by_cases hneg : p.head < 0
  · obtain ⟨m, hmm⟩ := Int.eq_ofNat_of_zero_le (show 0 ≤ -p.head - 1 by omega)
    have hm1 : (-p.head - 1).toNat = m := by omega
    have hmn : m < n := by have := HM.out; omega
    have hmni : (m : Int) < (n : Int) := by omega
    have HFN := Lib.hid (show p.fit t bs = if (bs m).head = 0 then some (setT bs m t) else if bs m = t then some bs else none by rw [HFE.out, if_pos hneg, hm1])
    have hm2 : -p.head - 1 = (m : Int) := hmm
    have hplo : -1000001 ≤ p.head := by omega
    clear hmm hm1
    obtain ⟨b, off, ko, ksp, rfl, hb1, c1, c2, c3⟩ := HRB.out m (by rw [listT_length]; exact hmn)
    rw [listT_gK hmn] at c1 c2 c3
    by_cases hz : (bs m).head = 0
    · have hzb : ((bs m).head != 0) = false := by simpa using hz
      have HF := Lib.hid (show p.fit t bs = some (setT bs m t) by rw [HFN.out, if_pos hz])
      rw [hz] at c1
      clear hz
      obtain ⟨⟨x0, _⟩, x1, _⟩ := S1.two 0
      have hlx := S1.lt 0
      have d1 := Below.cellOf S1.bel c1
      go_enter Try.func46, Try.ntmps46
      go_upto_region 6 with fail
      refine S1.genC (z := w.heap.size + 2) (by simp) ?_
      intro w1 z1 S2
      clear S1 x0 x1 hlx c1 d1 c2 c3
      obtain ⟨cs, hcl, hck, hcc, hc1⟩ := (HRB.out.kept S2.bel).cells
      rw [listT_length] at hcl
      have HCK := Lib.hid hck; have HCC := Lib.hid hcc; have HC1 := Lib.hid hc1; have HCL := Lib.hid hcl
      clear hck hcc hc1 hcl
      obtain ⟨i24, gi, gz0, gz1, gz2⟩ := info_parts info24
      go_wp2_with (at_builtin; refine wpList_append_own_any rfl (.tmp 33) (.tmp 34) 33 rfl w1.heap.size 38 i24 (.agg #[.int .i64 0, .slice none 0 0]) 2 32 Try.underlying33 gi gz0 gz1 gz2 rfl (by decide) (.slice none 0 0) 0 [] rfl (World.ownsRow_nil _ _ _ _) (some ⟨b, off, none⟩) n bc cs rfl (fun h => by cases h) HCL.out HCC.out HC1.out ?c3 ?c4 (Nat.le_refl _) ?_)
      case c3 => unfold maxLen; omega
      case c4 => omega
      intro v' w2 hown hgrow
      have hbg : Below w1.heap.size w1 w2 := (Below.refl _ _).grown hgrow (Nat.le_refl _) (fun q hq => by cases hq)
      have S3 := S2.step hbg
      try simp only [Nat.zero_add, List.nil_append] at hown
      have hro : RowOwn p0 w1.heap.size w2 v' (listT n bs) := ⟨cs, by rw [listT_length]; exact hown, fun i hi => by
        obtain ⟨k, sp, e1, e2, e3⟩ := HCK.out i hi
        exact ⟨k, sp, e1, e2, (e3.mono (q := fun b => p0 b ∧ v'.ownBlock ≠ some b) (fun b h _ => ⟨h, fun e => by have h1 := (hown.lt b e).1; have := HP0.out b h; omega⟩)).kept hbg⟩⟩
      obtain ⟨gg, cap, rfl⟩ : ∃ gg cap, v' = .slice (some ⟨gg, 0, none⟩) n cap := by
        rcases hown.2 with ⟨_, h⟩ | ⟨gg, cap, cur, h, _⟩
        · omega
        · exact ⟨gg, cap, h⟩
      have hgg := hown.lt gg rfl
      obtain ⟨k3, sp3, q1, q2, _⟩ := HCK.out m (by rw [listT_length]; exact hmn)
      have r1 := hown.cellAt (m * 2) (by omega)
      have r2 := hown.cellAt (m * 2 + 1) (by omega)
      rw [q1] at r1; rw [q2] at r2
      have r3 := hown.frozenAt (m * 2)
      have r4 := hown.frozenAt (m * 2 + 1)
      obtain ⟨⟨x0, _⟩, x1, _⟩ := S3.two 1
      have hset := RowOwn.set (j := m) (t := t) (k := tq) (sp := tsp) (by rw [listT_length]; exact hro) (by rw [listT_length]; exact hmn) ((HTT.out.mono (q := fun b => p0 b ∧ b ≠ gg) (fun b h h2 => ⟨h, by omega⟩)).kept S3.bel)
      rw [listT_length, listT_set hmn] at hset
      have hbel := (S3.bel.setCell (p := ⟨gg, m * 2, none⟩) (by show w.heap.size ≤ gg; omega) (.int .i64 t.head)).setCell (p := ⟨gg, m * 2 + 1, none⟩) (by show w.heap.size ≤ gg; omega) (.slice tq t.kids.length (t.kids.length + tsp))
      have HSET := Lib.hid hset; have HBEL := Lib.hid hbel
      clear hown hgrow hbg S2 S3 hro q1 q2 hset hbel
      go_wp2_with fail
      go_ret2
      obtain ⟨ao, sp, ee, hrow, _⟩ := (HSET.out.mono (q := fun b => p0 b ∨ w.heap.size ≤ b) (fun b h _ => .inl h)).row (fun b h => Or.inr (by omega))
      refine ⟨some ⟨gg, 0, none⟩, cap, by rw [HF.out]; rfl, fun r hr => ?_, HBEL.out⟩
      rw [HF.out] at hr
      obtain rfl := Option.some.inj hr
      obtain rfl : some ⟨gg, 0, none⟩ = ao := by simp at ee; exact ee.1
      exact hrow
    · have hzb : ((bs m).head != 0) = true := by simpa using hz
      have HFN := Lib.hid (show p.fit t bs = if bs m = t then some bs else none by rw [HFN.out, if_neg hz])
      clear hz
      obtain ⟨⟨x0, _⟩, x1, _⟩ := S1.two 0
      have hlx := S1.lt 0
      have d1 := Below.cellOf S1.bel c1
      go_enter Try.func46, Try.ntmps46
      go_upto_region 4 with fail
      refine S1.genC (z := w.heap.size + 2) (by simp) ?_
      intro w1 z1 S2
      clear S1 x0 x1 hlx d1
      obtain ⟨⟨x0, _⟩, x1, _⟩ := S2.two 1
      have d1 := Below.cellOf S2.bel c1; have d2 := Below.cellOf S2.bel c2
      have hcA : ∀ d os, Calls Try.prog 38 #[.agg #[.int .i64 (bs m).head, .slice ko (bs m).kids.length ((bs m).kids.length + ksp)], .agg #[.int .i64 t.head, .slice tq t.kids.length (t.kids.length + tsp)]] (Go.Sort.grow (redrawn w1 d) os) fun e w'' => e = .returned (.bool (decide (bs m = t))) ∧ ∃ p : Regrown, w'' = Go.Sort.grow (redrawn w1 p.d) p.os := fun d os =>
        Calls.regrown_of (same22 (bs m) t _ _ _ ((c3.at.kept S2.bel).kept (below_regrown w1 d os)) ((HTT.out.at.kept S2.bel).kept (below_regrown w1 d os)))
      have CA := Lib.hid hcA
      have r0 := cell_regrown x0; have r1 := cell_regrown x1; have r2 := cell_regrown d1; have r3 := cell_regrown d2
      clear hcA x0 x1 c1 c2 d1 d2 c3
      refine wp_region_quiet_below (by kernel_rfl) (by kernel_rfl) ?_
      repeat (go_big_quiet_step (exact CA.out _ _))
      refine wpQuiet_nil ?_
      intro _ hw'
      obtain ⟨⟨dq, osq⟩, hw''⟩ := hw'
      subst hw''
      refine (S2.regrown dq osq).genX (z := w.heap.size + 2) (Nat.le_trans z1 (below_regrown w1 dq osq).size) ?_
      intro w2 z2 S3
      clear r0 r1 r2 r3 CA S2
      go_wp2_with fail
      go_ret2
      have hrow := (HRB.out.kept S3.bel).mono (q := fun b => p0 b ∨ w.heap.size ≤ b) (fun b h _ => .inl h)
      by_cases he : bs m = t
      · exact ⟨_, _, by rw [HFN.out, if_pos he, decide_eq_true he]; rfl, (fun r hr => by rw [HFN.out, if_pos he] at hr; obtain rfl := Option.some.inj hr; exact hrow), S3.bel⟩
      · exact ⟨_, _, by rw [HFN.out, if_neg he, decide_eq_false he]; rfl, (fun r hr => by rw [HFN.out, if_neg he] at hr; cases hr), S3.bel⟩
  · have HF := Lib.hid (show p.fit t bs = if p.head = t.head ∧ p.kids.length = t.kids.length then fitL p.kids t.kids bs else none by rw [HFE.out, if_neg hneg])
    have hng : ¬ p.head < 0 := hneg
    obtain ⟨⟨x0, _⟩, x1, _⟩ := S1.two 0
    obtain ⟨⟨y0, _⟩, y1, _⟩ := S1.two 1
    have hlx := S1.lt 1
    have SE := Lib.hid S1.bel
    by_cases hh : p.head = t.head
    · have hhb : (p.head != t.head) = false := by simp [hh]
      by_cases hl : p.kids.length = t.kids.length
      · have hlb : ((p.kids.length : Int) != (t.kids.length : Int)) = false := by simp [hl]
        have HF := Lib.hid (show p.fit t bs = fitL p.kids t.kids bs by rw [HF.out, if_pos ⟨hh, hl⟩])
        have HL := Lib.hid hl
        clear hh hl
        go_enter Try.func46, Try.ntmps46
        go_wp2_with fail
        refine S1.genC (z := w.heap.size + 2) (by simp) ?_
        intro wB zB S2
        have SB := Lib.hid S2
        clear S1 S2 x0 x1 y0 y1 hlx SE
        go_loopw [2, 10, 11, 12] (fun bv i _ _ wr => ∃ (q : Nat) (bs' : Nat → T) (bo' : Option Addr) (bc' : Nat), q ≤ p.kids.length ∧ i = .int .i64 q ∧ bv = .slice bo' n bc' ∧ Hid (fitL (p.kids.drop q) (t.kids.drop q) bs' = fitL p.kids t.kids bs) ∧ RowP (fun b => p0 b ∨ w.heap.size ≤ b) wr bo' (listT n bs') ∧
          St w wr [.box w.heap.size #[.int .i64 p.head, .slice po p.kids.length (p.kids.length + psp)] 38, .box (w.heap.size + 1) #[.int .i64 t.head, .slice tq t.kids.length (t.kids.length + tsp)] 38]) (fun _ i _ _ _ => p.kids.length - (intOf i).toNat)
        case atStart => exact ⟨0, bs, bo, bc, by omega, rfl, rfl, rfl, (HRB.out.kept SB.out.bel).mono (fun b h _ => .inl h), SB.out⟩
        case round =>
          obtain ⟨q, bs', bo', bc', hq, rfl, rfl, HI, hrow, S⟩ := hrel
          have HROW := Lib.hid hrow
          obtain ⟨⟨x0, _⟩, x1, _⟩ := S.two 0
          obtain ⟨⟨y0, _⟩, y1, _⟩ := S.two 1
          clear hrow
          by_cases hlt : q < p.kids.length
          · have hlti : (q : Int) < (p.kids.length : Int) := by omega
            have hlt2 : q < t.kids.length := by have := HL.out; omega
            have hlti2 : (q : Int) < (t.kids.length : Int) := by omega
            obtain ⟨b, off, ko, ksp, rfl, hb1, c1, c2, c3⟩ := (HRP.out.kept S.bel) q hlt
            obtain ⟨b2, off2, ko2, ksp2, rfl, hb2, d1, d2, d3⟩ := (HRT.out.kept S.bel) q hlt2
            have hsz := S.size
            have HC := Lib.hid ((c3.mono (q := fun b => (p0 b ∨ w.heap.size ≤ b) ∧ b < wr.heap.size) (fun b h h2 => ⟨.inl h, h2⟩)).kept (w' := wr.drew) (Below.refl _ _).drew)
            have HD := Lib.hid ((d3.mono (q := fun b => (p0 b ∨ w.heap.size ≤ b) ∧ b < wr.heap.size) (fun b h h2 => ⟨.inl h, h2⟩)).kept (w' := wr.drew) (Below.refl _ _).drew)
            have HRW := Lib.hid ((HROW.out.mono (q := fun b => (p0 b ∨ w.heap.size ≤ b) ∧ b < wr.heap.size) (fun b h h2 => ⟨h, h2⟩)).kept (w' := wr.drew) (Below.refl _ _).drew)
            have HPZ := Lib.hid (show ∀ b, ((p0 b ∨ w.heap.size ≤ b) ∧ b < wr.heap.size) → b < wr.drew.heap.size from fun b h => h.2)
            have HKM := Lib.hid (show (gK p.kids q).most ≤ (n : Int) by have := kid_most hlt; have := HM.out; omega)
            clear c3 d3
            go_wp2_with fail
            have hq0 : (0 : Int) ≤ (q : Int) := by omega
            go_region_held3 (fun w' => w'.cell? ⟨w.heap.size, 1, none⟩ = some (.slice (some ⟨b, off, none⟩) p.kids.length (p.kids.length + psp)) ∧ w'.cell? ⟨w.heap.size + 1, 1, none⟩ = some (.slice (some ⟨b2, off2, none⟩) t.kids.length (t.kids.length + tsp)) ∧
                w'.cell? ⟨b, off + q * 2, none⟩ = some (.int .i64 (gK p.kids q).head) ∧ w'.cell? ⟨b, off + q * 2 + 1, none⟩ = some (.slice ko (gK p.kids q).kids.length ((gK p.kids q).kids.length + ksp)) ∧
                w'.cell? ⟨b2, off2 + q * 2, none⟩ = some (.int .i64 (gK t.kids q).head) ∧ w'.cell? ⟨b2, off2 + q * 2 + 1, none⟩ = some (.slice ko2 (gK t.kids q).kids.length ((gK t.kids q).kids.length + ksp2)))
              (first | go_keep | exact ⟨Below.cellOf hb3 x1, Below.cellOf hb3 y1, Below.cellOf hb3 c1, Below.cellOf hb3 c2, Below.cellOf hb3 d1, Below.cellOf hb3 d2⟩)
              (first | (go_at_call 46; refine (IH.out q hlt (gK t.kids q) bs' _ _ _ _ _ wr.drew HPZ.out HC.out HD.out HRW.out HKM.out hn).mono ?_; rintro e w3 ⟨ro, rc, rfl, hr3, hb3⟩; have HR3 := Lib.hid hr3; clear hr3))
            have HST := Lib.hid (fitL_step (bs := bs') hlt hlt2)
            have hb3' : Below wr.heap.size wr w3 := Below.step (Below.refl wr.heap.size wr).drew hb3
            have S4 := S.step hb3'
            clear x0 x1 y0 y1 c1 c2 d1 d2 hb1 hb2 hb3 S
            cases hfk : (gK p.kids q).fit (gK t.kids q) bs' with
            | none =>
              have HFN := Lib.hid (show p.fit t bs = none by rw [HF.out, ← HI.out, HST.out, hfk])
              clear hfk
              go_wp2_with fail
              go_ret2
              exact ⟨_, _, by rw [HFN.out]; rfl, (fun r hr => by rw [HFN.out] at hr; cases hr), S4.bel⟩
            | some b2' =>
              have HN := Lib.hid (show fitL (p.kids.drop (q + 1)) (t.kids.drop (q + 1)) b2' = fitL p.kids t.kids bs by rw [← HI.out, HST.out, hfk])
              have HR4 := Lib.hid ((HR3.out b2' hfk).mono (q := fun b => p0 b ∨ w.heap.size ≤ b) (fun b h _ => by
                rcases h with h | h
                · exact h.1
                · have h' : wr.heap.size ≤ b := h
                  right; omega))
              clear hfk
              go_wp2_with fail
              go_roundw
              case rel => exact ⟨q + 1, b2', _, _, by omega, by go_num, rfl, HN.out, HR4.out, S4⟩
              case measure => simp [intOf] <;> omega
          · obtain rfl : q = p.kids.length := by omega
            have HFS := Lib.hid (show p.fit t bs = some bs' by rw [HF.out, ← HI.out, List.drop_length, fitL])
            go_wp2_with fail
            go_ret2
            exact ⟨_, _, by rw [HFS.out]; rfl, (fun r hr => by rw [HFS.out] at hr; obtain rfl := Option.some.inj hr; exact HROW.out), S.bel⟩
      · have hlb : ((p.kids.length : Int) != (t.kids.length : Int)) = true := by simp; omega
        have HF := Lib.hid (show p.fit t bs = none by rw [HF.out, if_neg (fun h => hl h.2)])
        clear hh hl S1
        go_enter Try.func46, Try.ntmps46
        go_wp2_with fail
        go_ret2
        exact ⟨_, _, by rw [HF.out]; rfl, (fun r hr => by rw [HF.out] at hr; cases hr), SE.out⟩
    · have hhb : (p.head != t.head) = true := by simp [hh]
      have HF := Lib.hid (show p.fit t bs = none by rw [HF.out, if_neg (fun h => hh h.1)])
      clear hh S1
      go_enter Try.func46, Try.ntmps46
      go_wp2_with fail
      go_ret2
      exact ⟨_, _, by rw [HF.out]; rfl, (fun r hr => by rw [HF.out] at hr; cases hr), SE.out⟩
end Go.Proofs.Ytlhnfdjidjgfgaa
namespace Go.Proofs.Ytlhnfdjidjgfgaa
open Go.RowKit Go.Shelf
set_option linter.unusedVariables false
set_option maxHeartbeats 400000

/-- three rows of one's own share no block -/
def Apart3 (x y z : Value) : Prop := ∀ b, (x.ownBlock = some b → y.ownBlock ≠ some b ∧ z.ownBlock ≠ some b) ∧ (y.ownBlock = some b → x.ownBlock ≠ some b ∧ z.ownBlock ≠ some b) ∧ (z.ownBlock = some b → x.ownBlock ≠ some b ∧ y.ownBlock ≠ some b)
theorem Apart3.nil : Apart3 (.slice none 0 0) (.slice none 0 0) (.slice none 0 0) := fun b => ⟨fun h => by simp [Value.ownBlock] at h, fun h => by simp [Value.ownBlock] at h, fun h => by simp [Value.ownBlock] at h⟩
theorem Apart3.grow {x y z : Value} {gg n l c : Nat} (h : Apart3 x y z) (hat : x.ownBlock = some gg ∨ gg = n + 1) (hy : ∀ b, y.ownBlock = some b → b < n) (hz : ∀ b, z.ownBlock = some b → b < n) : Apart3 (.slice (some ⟨gg, 0, none⟩) l c) y z := by
  have hg : y.ownBlock ≠ some gg ∧ z.ownBlock ≠ some gg := by
    rcases hat with e | e
    · exact (h gg).1 e
    · exact ⟨fun e2 => by have := hy gg e2; omega, fun e2 => by have := hz gg e2; omega⟩
  intro b
  have hb : (Value.slice (some ⟨gg, 0, none⟩) l c).ownBlock = some b ↔ gg = b := by simp [Value.ownBlock]
  refine ⟨fun e => ?_, fun e => ⟨fun e2 => ?_, ((h b).2.1 e).2⟩, fun e => ⟨fun e2 => ?_, ((h b).2.2 e).2⟩⟩
  · rw [hb] at e; subst e; exact hg
  · rw [hb] at e2; subst e2; exact hg.1 e
  · rw [hb] at e2; subst e2; exact hg.2 e
theorem Apart3.rot {x y z : Value} (h : Apart3 x y z) : Apart3 y z x := fun b => ⟨fun e => ⟨((h b).2.1 e).2, ((h b).2.1 e).1⟩, fun e => ⟨((h b).2.2 e).2, ((h b).2.2 e).1⟩, fun e => (h b).1 e⟩

theorem St.found {P : Program} {n : Nat} {a : Array Value} {w0 w : World} {l : List Fct} (S : St w0 w l) {ks : List T} {t : T} {p : Nat → Bool} (h : Calls P n a w (FindP ks t p w)) :
    Calls P n a w fun e w' => ∃ (L : List Int) (f1 f2 : Int) (ro : Option Addr) (rc : Nat), e = .returned (.tuple #[.slice ro L.length rc, .agg #[.int .i64 f1, .int .i64 f2]]) ∧ Hid ((f1, f2) = findF ks t ∧ L = (if f1 = 0 then idxs p ks.length else [])) ∧ w.heap.size ≤ w'.heap.size ∧ St w0 w' (fsnoc l (.rowE intE (fun b => w.heap.size ≤ b ∧ b < w'.heap.size) ro L)) :=
  h.mono fun e w' ⟨L, f, ro, rc, h1, h2, h3, h4, h5⟩ => ⟨L, f.1, f.2, ro, rc, h1, ⟨h2, h3⟩, h5.size, (S.step h5).add (.rowE intE _ ro L) (h4.mono (fun b h6 h7 => ⟨h6, h7⟩))⟩

theorem ints56b {a b : List Int} {p q : Nat → Prop} {ao bo : Option Addr} {ca cb : Nat} (w : World) (ha : intE.Row p w ao a) (hb : intE.Row q w bo b) (e : a = b) (hl : b.length ≤ 1000000000) :
    Calls Try.prog 48 #[.slice ao a.length ca, .slice bo b.length cb] w fun e w' => e = .returned (.bool true) ∧ Below w.heap.size w w' := by
  have h := ints56 a b p q ao bo ca cb w ha hb (by rw [e]; exact hl) hl
  rw [decide_eq_true e] at h
  exact h
open Classical in
set_option maxRecDepth 100000 in
set_option maxHeartbeats 8000000 in
theorem indexSays12 (ao : Option Addr) (ks : List T) (c : Nat) (t : T) (v : Value) (w : World) (hr : RowAt w ao ks) (ht : TreeAt w v t) (hks : ∀ i, i < ks.length → (gK ks i).size ≤ 1048576) (hts : t.size ≤ 1048576) :
    Calls Try.prog 12 #[.slice ao ks.length c, v] w fun e w' => e = .returned (.bool true) ∧ Below w.heap.size w w' := by
  obtain ⟨tk, ts, rfl⟩ := ht.form
  have HR := Lib.hid hr; have TT := Lib.hid ht; have HKS := Lib.hid hks
  obtain ⟨bx, hbx⟩ : ∃ b, b = w.heap.size := ⟨_, rfl⟩
  have S1 := (St.start w).box hbx.symm #[.int .i64 t.head, .slice tk t.kids.length (t.kids.length + ts)] 38
  have HBX := Lib.hid hbx
  clear hr ht hks
  go_enter Try.func12, Try.ntmps12
  by_cases h80 : 80 < ks.length
  · have h80i : (80 : Int) < (ks.length : Int) := by omega
    have SE := Lib.hid S1.bel
    clear S1 hbx
    go_wp2_with fail
    go_ret
    exact ⟨rfl, SE.out⟩
  have h80i : ¬ (80 : Int) < (ks.length : Int) := by omega
  have hn : ks.length ≤ 80 := by omega
  obtain ⟨⟨x0, _⟩, x1, _⟩ := S1.two 0
  go_wp2_with fail
  rw [← hbx]
  refine St.gen S1 (z := bx + 1) (by simp [hbx]) ?_
  intro w1 z1 S
  clear S1 hbx x0 x1 h80 h80i
  refine (S.quiet (vast15 t _ w1 (by omega) (TT.out.kept S.bel))).mono ?_
  rintro e w2 ⟨rfl, z2, S2⟩
  clear S
  by_cases hv : (200 : Int) < t.size
  · have hvd : decide ((200 : Int) < t.size) = true := decide_eq_true hv
    rw [hvd]
    have SE := Lib.hid S2.bel
    clear S2 hv hvd
    go_wp2_with fail
    go_ret
    exact ⟨rfl, SE.out⟩
  have hvd : decide ((200 : Int) < t.size) = false := decide_eq_false hv
  rw [hvd]
  have hts : t.size ≤ 200 := by omega
  clear hv hvd
  have z2' : bx + 1 ≤ w2.heap.size := by omega
  clear z1 z2
  change St w w2 [.box bx #[.int .i64 t.head, .slice tk t.kids.length (t.kids.length + ts)] 38] at S2
  go_wp2_with fail
  go_loopw [5] (fun i wr => ∃ k : Nat, k ≤ ks.length ∧ i = .int .i64 k ∧ Hid (∀ j, j < k → (gK ks j).size ≤ 200) ∧ bx + 1 ≤ wr.heap.size ∧ St w wr [.box bx #[.int .i64 t.head, .slice tk t.kids.length (t.kids.length + ts)] 38]) (fun i _ => ks.length - (intOf i).toNat)
  case atStart => exact ⟨0, by omega, rfl, (fun j h => by omega), z2', S2⟩
  case round =>
    clear S2 z2'
    obtain ⟨k, hk, rfl, HS, z1, S⟩ := hrel
    by_cases hlt : k < ks.length
    · have hlti : (k : Int) < (ks.length : Int) := by omega
      obtain ⟨b, off, ko, ksp, rfl, c0w, c1w, c2w⟩ := HR.out k hlt
      have c0 := Below.cellOf S.bel c0w
      have c1 := Below.cellOf S.bel c1w
      have HKT := Lib.hid c2w
      clear c0w c1w c2w
      go_wp2_with fail
      refine (S.quiet (vast15 (gK ks k) _ wr (by have := HKS.out k hlt; omega) (HKT.out.kept S.bel))).mono ?_
      rintro e w2 ⟨rfl, z2, S2⟩
      clear S c0 c1
      by_cases hv : (200 : Int) < (gK ks k).size
      · have hvd : decide ((200 : Int) < (gK ks k).size) = true := decide_eq_true hv
        rw [hvd]
        have SE := Lib.hid S2.bel
        clear S2 hv hvd
        go_wp2_with fail
        go_ret
        exact ⟨rfl, SE.out⟩
      have hvd : decide ((200 : Int) < (gK ks k).size) = false := decide_eq_false hv
      rw [hvd]
      have HS2 := Lib.hid (show ∀ j, j < k + 1 → (gK ks j).size ≤ 200 from fun j hj => by
        by_cases e : j = k
        · subst e; omega
        · exact HS.out j (by omega))
      clear hv hvd
      go_wp2_with fail
      go_roundw
      case rel => exact ⟨k + 1, by omega, by go_num, HS2, by omega, S2⟩
      case measure => simp [intOf] <;> omega
    · obtain rfl : k = ks.length := by omega
      obtain ⟨w13, hw13⟩ : ∃ W, W = wr := ⟨_, rfl⟩
      subst hw13
      have z13 := z1
      clear z1
      obtain ⟨⟨x0, _⟩, x1, _⟩ := S.two 0
      go_wp2_with fail
      obtain ⟨F1, F2, hFF⟩ : ∃ F1 F2, findF ks t = (F1, F2) := ⟨_, _, rfl⟩
      have HFF := Lib.hid hFF
      clear hFF
      refine (S.fault (f := findF ks t) (indexFault42 ao ks c t _ w13 hn (HR.out.below S.bel) (TT.out.kept S.bel) HS.out hts)).mono ?_
      rintro e w14 ⟨f1, f2, rfl, HF0, z14, S14⟩
      obtain ⟨hf, hg⟩ : F1 = f1 ∧ F2 = f2 := by have := HF0.out; rw [HFF.out] at this; simpa using this
      subst hf hg
      obtain ⟨bw, hbw⟩ : ∃ b, b = w14.heap.size := ⟨_, rfl⟩
      have S15 := S14.box (b := bw) hbw.symm #[.int .i64 F1, .int .i64 F2] 29
      clear S S14 x0 x1 HF0
      go_upto_region 9 with fail
      rw [← hbw]
      refine S15.genC (z := bw + 1) (by simp [hbw]) ?_
      intro w15 z15 S
      have HBW := Lib.hid (show bx + 1 ≤ bw by omega)
      clear S15 hbw z14 z13
      obtain ⟨⟨x0, _⟩, x1, _⟩ := S.two 0
      go_wp2_with fail
      refine (S.found (over43 ao ks c t _ w15 (by omega) (HR.out.below S.bel) (TT.out.kept S.bel))).mono ?_
      rintro e w20 ⟨LA, fa, ga, roa, rca, rfl, HFA, z20, S20⟩
      obtain ⟨hf, hg⟩ : fa = F1 ∧ ga = F2 := by have := HFA.out.1; rw [HFF.out] at this; simpa using this
      subst hf hg
      obtain ⟨b1, hb1⟩ : ∃ b, b = w20.heap.size := ⟨_, rfl⟩
      have S21 := S20.box (b := b1) hb1.symm #[.int .i64 fa, .int .i64 ga] 29
      clear S S20 x0 x1
      go_upto_region 10 with fail
      rw [← hb1]
      refine S21.genC (z := b1 + 1) (by simp [hb1]) ?_
      intro w21 z21 S
      have HB1 := Lib.hid (show bw + 1 ≤ b1 ∧ b1 = w20.heap.size by omega)
      clear S21 hb1 z20 z15
      obtain ⟨⟨x0, _⟩, x1, _⟩ := S.two 0
      go_wp2_with fail
      refine (S.found (under44 ao ks c t _ w21 (by omega) (HR.out.below S.bel) (TT.out.kept S.bel))).mono ?_
      rintro e w22 ⟨LB, fb, gb, rob, rcb, rfl, HFB, z22, S22⟩
      obtain ⟨hf, hg⟩ : fb = fa ∧ gb = ga := by have := HFB.out.1; rw [HFF.out] at this; simpa using this
      subst hf hg
      obtain ⟨b2, hb2⟩ : ∃ b, b = w22.heap.size := ⟨_, rfl⟩
      have S23 := S22.box (b := b2) hb2.symm #[.int .i64 fb, .int .i64 gb] 29
      clear S S22 x0 x1
      go_upto_region 11 with fail
      rw [← hb2]
      refine S23.genC (z := b2 + 1) (by simp [hb2]) ?_
      intro w23 z23 S
      have HB2 := Lib.hid (show b1 + 1 ≤ b2 ∧ b2 = w22.heap.size by omega)
      clear S23 hb2 z22 z21
      obtain ⟨⟨x0, _⟩, x1, _⟩ := S.two 0
      go_wp2_with fail
      refine (S.found (meet45 ao ks c t _ w23 (by omega) (HR.out.below S.bel) (TT.out.kept S.bel))).mono ?_
      rintro e w24 ⟨LC, fc, gc, roc, rcc, rfl, HFC, z24, S24⟩
      obtain ⟨hf, hg⟩ : fc = fb ∧ gc = gb := by have := HFC.out.1; rw [HFF.out] at this; simpa using this
      subst hf hg
      obtain ⟨b3, hb3⟩ : ∃ b, b = w24.heap.size := ⟨_, rfl⟩
      have S25 := S24.box (b := b3) hb3.symm #[.int .i64 fc, .int .i64 gc] 29
      clear S S24 x0 x1
      go_upto_region 12 with fail
      rw [← hb3]
      refine S25.genC (z := b3 + 1) (by simp [hb3]) ?_
      intro w25 z25 S
      have HB3 := Lib.hid (show bx + 1 ≤ b3 ∧ bw + 1 ≤ b3 ∧ b2 + 1 ≤ b3 ∧ b3 = w24.heap.size ∧ w20.heap.size ≤ b3 ∧ w22.heap.size ≤ b3 by have := HBW.out; have := HB1.out; have := HB2.out; omega)
      clear S25 hb3 z24 z23
      obtain ⟨⟨x0, _⟩, x1, _⟩ := S.two 1
      obtain ⟨⟨y0, _⟩, y1, _⟩ := S.two 3
      obtain ⟨⟨u0, _⟩, u1, _⟩ := S.two 5
      obtain ⟨⟨v0, _⟩, v1, _⟩ := S.two 7
      go_wp2_with fail
      clear x0 x1 y0 y1 u0 u1 v0 v1
      obtain ⟨pa, hpa⟩ : ∃ pa : Nat → Bool, pa = fun i => (fitF (gK ks i) t).isSome := ⟨_, rfl⟩
      obtain ⟨pb, hpb⟩ : ∃ pb : Nat → Bool, pb = fun i => (fitF t (gK ks i)).isSome := ⟨_, rfl⟩
      obtain ⟨pc, hpc⟩ : ∃ pc : Nat → Bool, pc = fun i => decide (Meets (gK ks i) t) := ⟨_, rfl⟩
      have HLA := Lib.hid (show LA = (if fc = 0 then idxs pa ks.length else []) by rw [hpa]; exact HFA.out.2)
      have HLB := Lib.hid (show LB = (if fc = 0 then idxs pb ks.length else []) by rw [hpb]; exact HFB.out.2)
      have HLC := Lib.hid (show LC = (if fc = 0 then idxs pc ks.length else []) by rw [hpc]; exact HFC.out.2)
      have HPA := Lib.hid (show ∀ i, pa i = (fitF (gK ks i) t).isSome from fun i => by rw [hpa])
      have HPB := Lib.hid (show ∀ i, pb i = (fitF t (gK ks i)).isSome from fun i => by rw [hpb])
      have HPC := Lib.hid (show ∀ i, pc i = decide (Meets (gK ks i) t) from fun i => by rw [hpc])
      clear hpa hpb hpc HFA HFB HFC
      have HOK := Lib.hid (show fc = 0 → (∀ k, k < ks.length → (treeF (gK ks k)).1 = 0) ∧ (treeF t).1 = 0 from fun e => by
        have h := findF_ok (ks := ks) (t := t) (by rw [HFF.out]; exact e)
        exact ⟨h.2.1, h.2.2⟩)
      have S0 := ((((((S.pick [0, 1]).add (.rowE intE (fun b => b < b3) roa LA) ((St.rowE S intE 2 rfl).mono (fun b h _ => by have := HB3.out; have := h.2; omega))).add (.rowE intE (fun b => b < b3) rob LB) ((St.rowE S intE 4 rfl).mono (fun b h _ => by have := HB3.out; have := h.2; omega))).add (.rowE intE (fun b => b < b3) roc LC) ((St.rowE S intE 6 rfl).mono (fun b h _ => by have := HB3.out; have := h.2; omega))).add (.owns intE (b3 + 1) pF (.slice none 0 0) []) (Elt.Own.nil _ _ _ _)).add (.owns intE (b3 + 1) pF (.slice none 0 0) []) (Elt.Own.nil _ _ _ _)).add (.owns intE (b3 + 1) pF (.slice none 0 0) []) (Elt.Own.nil _ _ _ _)
      change St w w25 [.box bx #[.int .i64 t.head, .slice tk t.kids.length (t.kids.length + ts)] 38, .box bw #[.int .i64 fc, .int .i64 gc] 29, .rowE intE (fun b => b < b3) roa LA, .rowE intE (fun b => b < b3) rob LB, .rowE intE (fun b => b < b3) roc LC, .owns intE (b3 + 1) pF (.slice none 0 0) (idxs pa 0), .owns intE (b3 + 1) pF (.slice none 0 0) (idxs pb 0), .owns intE (b3 + 1) pF (.slice none 0 0) (idxs pc 0)] at S0
      clear S
      obtain ⟨iI, gi, gz0, gz1, gz2⟩ := info_parts infoI
      go_loopw [13, 14, 15, 16] (fun o1 o2 o3 i wr => ∃ (k : Nat) (x y z : Value), o1 = x ∧ o2 = y ∧ o3 = z ∧ k ≤ ks.length ∧ i = .int .i64 k ∧ Hid (fc ≠ 0 → k = 0) ∧ Hid (Apart3 x y z) ∧ b3 + 1 ≤ wr.heap.size ∧ St w wr [.box bx #[.int .i64 t.head, .slice tk t.kids.length (t.kids.length + ts)] 38, .box bw #[.int .i64 fc, .int .i64 gc] 29, .rowE intE (fun b => b < b3) roa LA, .rowE intE (fun b => b < b3) rob LB, .rowE intE (fun b => b < b3) roc LC, .owns intE (b3 + 1) pF x (idxs pa k), .owns intE (b3 + 1) pF y (idxs pb k), .owns intE (b3 + 1) pF z (idxs pc k)]) (fun _ _ _ i _ => ks.length - (intOf i).toNat)
      case atStart => exact ⟨0, _, _, _, rfl, rfl, rfl, by omega, rfl, fun _ => rfl, Apart3.nil, z25, S0⟩
      case round =>
        clear S0 z25
        obtain ⟨k, x, y, z, hx, hy, hz, hk, rfl, HK0, HAP, z1, S⟩ := hrel
        replace hx := hx.symm
        replace hy := hy.symm
        replace hz := hz.symm
        subst hx hy hz
        obtain ⟨⟨x0, _⟩, x1, _⟩ := S.two 1
        by_cases hlt : k < ks.length
        · have hlti : (k : Int) < (ks.length : Int) := by omega
          by_cases hc0 : fc = 0
          · subst hc0
            obtain ⟨q, hq⟩ : ∃ q, q = gK ks k := ⟨_, rfl⟩
            have HOQ := Lib.hid (show (treeF q).1 = 0 by rw [hq]; exact (HOK.out rfl).1 k hlt)
            have HOT := Lib.hid (show (treeF t).1 = 0 from (HOK.out rfl).2)
            have HPAk := Lib.hid (show pa k = (fitF q t).isSome by rw [HPA.out, hq])
            have HPBk := Lib.hid (show pb k = (fitF t q).isSome by rw [HPB.out, hq])
            have HPCk := Lib.hid (show pc k = decide (Meets q t) by rw [HPC.out, hq])
            obtain ⟨Q, hQ⟩ : ∃ Q : Nat, (Q : Int) = q.most := ⟨q.most.toNat, by have := q.most_nonneg; omega⟩
            obtain ⟨M, hM⟩ : ∃ M : Nat, (M : Int) = t.most := ⟨t.most.toNat, by have := t.most_nonneg; omega⟩
            have hQ8 : Q ≤ 8 := by have := most_le q (ok_parts HOQ.out).1; omega
            have hM8 : M ≤ 8 := by have := most_le t (ok_parts HOT.out).1; omega
            have HMQ := Lib.hid (fun W v (h : TreeAt W v q) => show Calls Try.prog 27 #[v] W fun e w' => e = .returned (.int .i64 (Q : Int)) ∧ Below W.heap.size W w' by rw [hQ]; exact most30 q v W (low_of_pre q (ok_parts HOQ.out).1) h)
            have HMT := Lib.hid (fun W v (h : TreeAt W v t) => show Calls Try.prog 27 #[v] W fun e w' => e = .returned (.int .i64 (M : Int)) ∧ Below W.heap.size W w' by rw [hM]; exact most30 t v W (low_of_pre t (ok_parts HOT.out).1) h)
            have HQL := Lib.hid (show q.most ≤ (Q : Int) by omega)
            have HTL := Lib.hid (show t.most ≤ (M : Int) by omega)
            have HQE := Lib.hid hQ
            have HTE := Lib.hid hM
            obtain ⟨b, off, ko, ksp, rfl, c0w, c1w, c2w⟩ := HR.out k hlt
            rw [← hq] at c0w c1w c2w
            have HQT := Lib.hid c2w
            have HC0 := Lib.hid c0w
            have HC1 := Lib.hid c1w
            clear hq hQ hM c0w c1w c2w
            go_upto_region 18 with fail
            go_cut [18] (fun t18 W => t18 = .bool (pa k) ∧ b3 + 1 ≤ W.heap.size ∧ St w W [.box bx #[.int .i64 t.head, .slice tk t.kids.length (t.kids.length + ts)] 38, .box bw #[.int .i64 0, .int .i64 gc] 29, .rowE intE (fun b => b < b3) roa LA, .rowE intE (fun b => b < b3) rob LB, .rowE intE (fun b => b < b3) roc LC, .owns intE (b3 + 1) pF x (idxs pa k), .owns intE (b3 + 1) pF y (idxs pb k), .owns intE (b3 + 1) pF z (idxs pc k)])
            case first =>
              have c0 := Below.cellOf S.bel HC0.out
              have c1 := Below.cellOf S.bel HC1.out
              obtain ⟨⟨t0, _⟩, t1, _⟩ := S.two 0
              obtain ⟨W0, hW0⟩ : ∃ W, W = wr := ⟨_, rfl⟩
              have SD := S.drew
              have FC := Lib.hid (fun W (hb : Below wr.heap.size wr W) => (⟨Below.cellOf hb c0, Below.cellOf hb c1, Below.cellOf hb t0, Below.cellOf hb t1⟩ : _ ∧ _ ∧ _ ∧ _))
              have hmk := make25 Q (by omega)
              clear S hW0 x0 x1 c0 c1 t0 t1
              refine wpH_region [] (fun W => W.cell? ⟨b, off + k * 2, none⟩ = some (.int .i64 q.head) ∧ W.cell? ⟨b, off + k * 2 + 1, none⟩ = some (.slice ko q.kids.length (q.kids.length + ksp)) ∧ W.cell? ⟨bx, 0, none⟩ = some (.int .i64 t.head) ∧ W.cell? ⟨bx, 1, none⟩ = some (.slice tk t.kids.length (t.kids.length + ts))) (by kernel_rfl) ?_
              have HS := FC.out _ (Below.refl _ wr).drew
              refine wpH.take (i := 0) (by kernel_rfl) (by kernel_rfl) (by kernel_rfl) (by kernel_rfl) (by kernel_rfl) HS ?_
              intro oi ho
              simp only [List.getElem?_toArray, List.getElem?_cons_zero, Option.some.injEq] at ho
              subst ho
              refine ⟨?_, Or.inl ⟨by rfl, ?_⟩, fun _ _ _ h => h, ?_⟩
              rotate_left 1
              · intro W hW
                try dsimp only at hW
                go_simp
                try with_reducible rfl
              simp only [Act.put, List.setIfInBounds_toArray, List.set_cons_zero, List.set_cons_succ]
              refine wpH.take (i := 1) (by kernel_rfl) (by kernel_rfl) (by kernel_rfl) (by kernel_rfl) (by kernel_rfl) HS ?_
              intro oi ho
              simp only [List.getElem?_toArray, List.getElem?_cons_succ, List.getElem?_cons_zero, Option.some.injEq] at ho
              subst ho
              refine ⟨?_, Or.inl ⟨by rfl, ?_⟩, fun _ _ _ h => h, ?_⟩
              rotate_left 1
              · intro W hW
                try dsimp only at hW
                go_simp
                try with_reducible rfl
              simp only [Act.put, List.setIfInBounds_toArray, List.set_cons_zero, List.set_cons_succ]
              refine wpH.take (i := 2) (by kernel_rfl) (by kernel_rfl) (by kernel_rfl) (by kernel_rfl) (by kernel_rfl) HS ?_
              intro oi ho
              simp only [List.getElem?_toArray, List.getElem?_cons_succ, List.getElem?_cons_zero, Option.some.injEq] at ho
              subst ho
              refine ⟨?_, Or.inl ⟨by rfl, ?_⟩, fun _ _ _ h => h, ?_⟩
              rotate_left 1
              · intro W hW
                try dsimp only at hW
                go_simp
                try with_reducible rfl
              simp only [Act.put, List.setIfInBounds_toArray, List.set_cons_zero, List.set_cons_succ]
              refine wpH.take (i := 3) (by kernel_rfl) (by kernel_rfl) (by kernel_rfl) (by kernel_rfl) (by kernel_rfl) HS ?_
              intro oi ho
              simp only [List.getElem?_toArray, List.getElem?_cons_succ, List.getElem?_cons_zero, Option.some.injEq] at ho
              subst ho
              refine ⟨?_, Or.inl ⟨by rfl, ?_⟩, fun _ _ _ h => h, ?_⟩
              rotate_left 1
              · intro W hW
                try dsimp only at hW
                go_simp
                try with_reducible rfl
              simp only [Act.put, List.setIfInBounds_toArray, List.set_cons_zero, List.set_cons_succ]
              refine wpH.take (i := 4) (by kernel_rfl) (by kernel_rfl) (by kernel_rfl) (by kernel_rfl) (by kernel_rfl) HS ?_
              intro oi ho
              simp only [List.getElem?_toArray, List.getElem?_cons_succ, List.getElem?_cons_zero, Option.some.injEq] at ho
              subst ho
              refine ⟨?_, Or.inl ⟨by rfl, ?_⟩, fun _ _ _ h => h, ?_⟩
              rotate_left 1
              · intro W hW
                try dsimp only at hW
                go_simp
                try with_reducible rfl
              simp only [Act.put, List.setIfInBounds_toArray, List.set_cons_zero, List.set_cons_succ]
              refine wpH.take (i := 5) (by kernel_rfl) (by kernel_rfl) (by kernel_rfl) (by kernel_rfl) (by kernel_rfl) HS ?_
              intro oi ho
              simp only [List.getElem?_toArray, List.getElem?_cons_succ, List.getElem?_cons_zero, Option.some.injEq] at ho
              subst ho
              refine ⟨?_, Or.inl ⟨by rfl, ?_⟩, fun _ _ _ h => h, ?_⟩
              rotate_left 1
              · intro W hW
                try dsimp only at hW
                go_simp
                try with_reducible rfl
              simp only [Act.put, List.setIfInBounds_toArray, List.set_cons_zero, List.set_cons_succ]
              refine wpH.take (i := 6) (by kernel_rfl) (by kernel_rfl) (by kernel_rfl) (by kernel_rfl) (by kernel_rfl) HS ?_
              intro oi ho
              simp only [List.getElem?_toArray, List.getElem?_cons_succ, List.getElem?_cons_zero, Option.some.injEq] at ho
              subst ho
              refine ⟨?_, Or.inl ⟨by rfl, ?_⟩, fun _ _ _ h => h, ?_⟩
              rotate_left 1
              · intro W hW
                try dsimp only at hW
                go_simp
                try with_reducible rfl
              simp only [Act.put, List.setIfInBounds_toArray, List.set_cons_zero, List.set_cons_succ]
              refine wpH.take (i := 7) (by kernel_rfl) (by kernel_rfl) (by kernel_rfl) (by kernel_rfl) (by kernel_rfl) HS ?_
              intro oi ho
              simp only [List.getElem?_toArray, List.getElem?_cons_succ, List.getElem?_cons_zero, Option.some.injEq] at ho
              subst ho
              refine ⟨?_, Or.inl ⟨by rfl, ?_⟩, fun _ _ _ h => h, ?_⟩
              rotate_left 1
              · intro W hW
                try dsimp only at hW
                go_simp
                try with_reducible rfl
              simp only [Act.put, List.setIfInBounds_toArray, List.set_cons_zero, List.set_cons_succ]
              refine wpH.take (i := 8) (by kernel_rfl) (by kernel_rfl) (by kernel_rfl) (by kernel_rfl) (by kernel_rfl) HS ?_
              intro oi ho
              simp only [List.getElem?_toArray, List.getElem?_cons_succ, List.getElem?_cons_zero, Option.some.injEq] at ho
              subst ho
              refine ⟨?_, Or.inl ⟨by rfl, ?_⟩, fun _ _ _ h => h, ?_⟩
              rotate_left 1
              · intro W hW
                try dsimp only at hW
                go_simp
                try with_reducible rfl
              simp only [Act.put, List.setIfInBounds_toArray, List.set_cons_zero, List.set_cons_succ]
              refine wpH.one (i := 9) (by kernel_rfl) ?_
              intro oi ho
              simp only [List.getElem?_toArray, List.getElem?_cons_succ, List.getElem?_cons_zero, Option.some.injEq] at ho
              subst ho
              intro K hK
              have HK := Lib.hid hK
              clear hK
              go_simp
              go_at_call 27
              refine (HMQ.out _ _ (HQT.out.kept SD.bel)).mono ?_
              rintro e wn ⟨rfl, hbn⟩
              have S9 := SD.step hbn
              have HB9 := Lib.hid (Below.step (Below.refl _ wr).drew hbn)
              have zq := hbn.size
              clear hbn
              dsimp only
              refine HK.out _ _ (fun _ => FC.out _ HB9.out) ?_
              have HS := FC.out _ HB9.out
              try simp only [Act.put, List.setIfInBounds_toArray, List.set_cons_zero, List.set_cons_succ]
              refine wpH.one (i := 10) (by kernel_rfl) ?_
              intro oi ho
              simp only [List.getElem?_toArray, List.getElem?_cons_succ, List.getElem?_cons_zero, Option.some.injEq] at ho
              subst ho
              intro K hK
              have HK := Lib.hid hK
              clear hK
              go_simp
              have S10 := S9.alloc (.cells (madeCells (Value.agg #[.int .i64 0, .slice none 0 0]).cells (Q * 2)) 38)
              have HB10 := Lib.hid (HB9.out.alloc (HB9.out.size) (.cells (madeCells (Value.agg #[.int .i64 0, .slice none 0 0]).cells (Q * 2)) 38))
              refine HK.out _ _ (fun _ => FC.out _ HB10.out) ?_
              have HS := FC.out _ HB10.out
              try simp only [Act.put, List.setIfInBounds_toArray, List.set_cons_zero, List.set_cons_succ]
              refine wpH.one (i := 11) (by kernel_rfl) ?_
              intro oi ho
              simp only [List.getElem?_toArray, List.getElem?_cons_succ, List.getElem?_cons_zero, Option.some.injEq] at ho
              subst ho
              intro K hK
              have HK := Lib.hid hK
              clear hK
              go_simp
              go_at_call 46
              refine (fit35 Q q t (fun _ => zeroT) (fun b => b < (wn.alloc (.cells (madeCells (Value.agg #[.int .i64 0, .slice none 0 0]).cells (Q * 2)) 38)).heap.size) _ _ _ _ _ (fun _ h => h) ((HQT.out.kept S10.bel).foot) ((TT.out.kept S10.bel).foot) (RowP.made (heap_ofAlloc _ _) _ (by simp)) HQL.out (by omega)).mono ?_
              rintro e w12 ⟨ro2, rc2, rfl, _, hb12⟩
              have S12 := S10.step hb12
              have HB12 := Lib.hid (Below.step HB10.out hb12)
              clear hb12
              dsimp only
              refine HK.out _ _ (fun _ => FC.out _ HB12.out) ?_
              have HS := FC.out _ HB12.out
              try simp only [Act.put, List.setIfInBounds_toArray, List.set_cons_zero, List.set_cons_succ]
              refine wpH.one (i := 12) (by kernel_rfl) ?_
              intro oi ho
              simp only [List.getElem?_toArray, List.getElem?_cons_succ, List.getElem?_cons_zero, Option.some.injEq] at ho
              subst ho
              intro K hK
              have HK := Lib.hid hK
              clear hK
              go_simp
              refine HK.out _ _ (fun _ => FC.out _ HB12.out) ?_
              have HS := FC.out _ HB12.out
              try simp only [Act.put, List.setIfInBounds_toArray, List.set_cons_zero, List.set_cons_succ]
              refine wpH.take (i := 13) (by kernel_rfl) (by kernel_rfl) (by kernel_rfl) (by kernel_rfl) (by kernel_rfl) HS ?_
              intro oi ho
              simp only [List.getElem?_toArray, List.getElem?_cons_succ, List.getElem?_cons_zero, Option.some.injEq] at ho
              subst ho
              refine ⟨?_, Or.inl ⟨by rfl, ?_⟩, fun _ _ _ h => h, ?_⟩
              rotate_left 1
              · intro W hW
                try dsimp only at hW
                go_simp
                try with_reducible rfl
              simp only [Act.put, List.setIfInBounds_toArray, List.set_cons_zero, List.set_cons_succ]
              refine wpH.take (i := 14) (by kernel_rfl) (by kernel_rfl) (by kernel_rfl) (by kernel_rfl) (by kernel_rfl) HS ?_
              intro oi ho
              simp only [List.getElem?_toArray, List.getElem?_cons_succ, List.getElem?_cons_zero, Option.some.injEq] at ho
              subst ho
              refine ⟨?_, Or.inl ⟨by rfl, ?_⟩, fun _ _ _ h => h, ?_⟩
              rotate_left 1
              · intro W hW
                try dsimp only at hW
                go_simp
                try with_reducible rfl
              simp only [Act.put, List.setIfInBounds_toArray, List.set_cons_zero, List.set_cons_succ]
              refine wpH.take (i := 15) (by kernel_rfl) (by kernel_rfl) (by kernel_rfl) (by kernel_rfl) (by kernel_rfl) HS ?_
              intro oi ho
              simp only [List.getElem?_toArray, List.getElem?_cons_succ, List.getElem?_cons_zero, Option.some.injEq] at ho
              subst ho
              refine ⟨?_, Or.inl ⟨by rfl, ?_⟩, fun _ _ _ h => h, ?_⟩
              rotate_left 1
              · intro W hW
                try dsimp only at hW
                go_simp
                try with_reducible rfl
              simp only [Act.put, List.setIfInBounds_toArray, List.set_cons_zero, List.set_cons_succ]
              refine wpH.take (i := 16) (by kernel_rfl) (by kernel_rfl) (by kernel_rfl) (by kernel_rfl) (by kernel_rfl) HS ?_
              intro oi ho
              simp only [List.getElem?_toArray, List.getElem?_cons_succ, List.getElem?_cons_zero, Option.some.injEq] at ho
              subst ho
              refine ⟨?_, Or.inl ⟨by rfl, ?_⟩, fun _ _ _ h => h, ?_⟩
              rotate_left 1
              · intro W hW
                try dsimp only at hW
                go_simp
                try with_reducible rfl
              simp only [Act.put, List.setIfInBounds_toArray, List.set_cons_zero, List.set_cons_succ]
              refine wpH.done (by kernel_rfl) ?_
              have z12 := HB12.out.size
              clear hmk SD S9 S10 HS
              try go_wp2_with fail
              go_meet
              case rel => exact ⟨congrArg Value.bool (by rw [HPAk.out, fitF_isSome]), by omega, S12⟩
            case rest =>
              clear S z1
              obtain ⟨ht18, z1, S⟩ := hcut
              subst ht18
              go_step
              go_upto_region 19 with fail
              go_cut [20] (fun t18 W => t18 = .bool (pb k) ∧ b3 + 1 ≤ W.heap.size ∧ St w W [.box bx #[.int .i64 t.head, .slice tk t.kids.length (t.kids.length + ts)] 38, .box bw #[.int .i64 0, .int .i64 gc] 29, .rowE intE (fun b => b < b3) roa LA, .rowE intE (fun b => b < b3) rob LB, .rowE intE (fun b => b < b3) roc LC, .owns intE (b3 + 1) pF x (idxs pa k), .owns intE (b3 + 1) pF y (idxs pb k), .owns intE (b3 + 1) pF z (idxs pc k)])
              case first =>
                have c0 := Below.cellOf S.bel HC0.out
                have c1 := Below.cellOf S.bel HC1.out
                obtain ⟨⟨t0, _⟩, t1, _⟩ := S.two 0
                obtain ⟨W0, hW0⟩ : ∃ W, W = wc := ⟨_, rfl⟩
                have SD := S.drew
                have FC := Lib.hid (fun W (hb : Below wc.heap.size wc W) => (⟨Below.cellOf hb c0, Below.cellOf hb c1, Below.cellOf hb t0, Below.cellOf hb t1⟩ : _ ∧ _ ∧ _ ∧ _))
                have hmk := make25 M (by omega)
                clear S hW0 x0 x1 c0 c1 t0 t1
                refine wpH_region [] (fun W => W.cell? ⟨b, off + k * 2, none⟩ = some (.int .i64 q.head) ∧ W.cell? ⟨b, off + k * 2 + 1, none⟩ = some (.slice ko q.kids.length (q.kids.length + ksp)) ∧ W.cell? ⟨bx, 0, none⟩ = some (.int .i64 t.head) ∧ W.cell? ⟨bx, 1, none⟩ = some (.slice tk t.kids.length (t.kids.length + ts))) (by kernel_rfl) ?_
                have HS := FC.out _ (Below.refl _ wc).drew
                refine wpH.take (i := 0) (by kernel_rfl) (by kernel_rfl) (by kernel_rfl) (by kernel_rfl) (by kernel_rfl) HS ?_
                intro oi ho
                simp only [List.getElem?_toArray, List.getElem?_cons_zero, Option.some.injEq] at ho
                subst ho
                refine ⟨?_, Or.inl ⟨by rfl, ?_⟩, fun _ _ _ h => h, ?_⟩
                rotate_left 1
                · intro W hW
                  try dsimp only at hW
                  go_simp
                  try with_reducible rfl
                simp only [Act.put, List.setIfInBounds_toArray, List.set_cons_zero, List.set_cons_succ]
                refine wpH.take (i := 1) (by kernel_rfl) (by kernel_rfl) (by kernel_rfl) (by kernel_rfl) (by kernel_rfl) HS ?_
                intro oi ho
                simp only [List.getElem?_toArray, List.getElem?_cons_succ, List.getElem?_cons_zero, Option.some.injEq] at ho
                subst ho
                refine ⟨?_, Or.inl ⟨by rfl, ?_⟩, fun _ _ _ h => h, ?_⟩
                rotate_left 1
                · intro W hW
                  try dsimp only at hW
                  go_simp
                  try with_reducible rfl
                simp only [Act.put, List.setIfInBounds_toArray, List.set_cons_zero, List.set_cons_succ]
                refine wpH.take (i := 2) (by kernel_rfl) (by kernel_rfl) (by kernel_rfl) (by kernel_rfl) (by kernel_rfl) HS ?_
                intro oi ho
                simp only [List.getElem?_toArray, List.getElem?_cons_succ, List.getElem?_cons_zero, Option.some.injEq] at ho
                subst ho
                refine ⟨?_, Or.inl ⟨by rfl, ?_⟩, fun _ _ _ h => h, ?_⟩
                rotate_left 1
                · intro W hW
                  try dsimp only at hW
                  go_simp
                  try with_reducible rfl
                simp only [Act.put, List.setIfInBounds_toArray, List.set_cons_zero, List.set_cons_succ]
                refine wpH.take (i := 3) (by kernel_rfl) (by kernel_rfl) (by kernel_rfl) (by kernel_rfl) (by kernel_rfl) HS ?_
                intro oi ho
                simp only [List.getElem?_toArray, List.getElem?_cons_succ, List.getElem?_cons_zero, Option.some.injEq] at ho
                subst ho
                refine ⟨?_, Or.inl ⟨by rfl, ?_⟩, fun _ _ _ h => h, ?_⟩
                rotate_left 1
                · intro W hW
                  try dsimp only at hW
                  go_simp
                  try with_reducible rfl
                simp only [Act.put, List.setIfInBounds_toArray, List.set_cons_zero, List.set_cons_succ]
                refine wpH.take (i := 4) (by kernel_rfl) (by kernel_rfl) (by kernel_rfl) (by kernel_rfl) (by kernel_rfl) HS ?_
                intro oi ho
                simp only [List.getElem?_toArray, List.getElem?_cons_succ, List.getElem?_cons_zero, Option.some.injEq] at ho
                subst ho
                refine ⟨?_, Or.inl ⟨by rfl, ?_⟩, fun _ _ _ h => h, ?_⟩
                rotate_left 1
                · intro W hW
                  try dsimp only at hW
                  go_simp
                  try with_reducible rfl
                simp only [Act.put, List.setIfInBounds_toArray, List.set_cons_zero, List.set_cons_succ]
                refine wpH.take (i := 5) (by kernel_rfl) (by kernel_rfl) (by kernel_rfl) (by kernel_rfl) (by kernel_rfl) HS ?_
                intro oi ho
                simp only [List.getElem?_toArray, List.getElem?_cons_succ, List.getElem?_cons_zero, Option.some.injEq] at ho
                subst ho
                refine ⟨?_, Or.inl ⟨by rfl, ?_⟩, fun _ _ _ h => h, ?_⟩
                rotate_left 1
                · intro W hW
                  try dsimp only at hW
                  go_simp
                  try with_reducible rfl
                simp only [Act.put, List.setIfInBounds_toArray, List.set_cons_zero, List.set_cons_succ]
                refine wpH.one (i := 6) (by kernel_rfl) ?_
                intro oi ho
                simp only [List.getElem?_toArray, List.getElem?_cons_succ, List.getElem?_cons_zero, Option.some.injEq] at ho
                subst ho
                intro K hK
                have HK := Lib.hid hK
                clear hK
                go_simp
                go_at_call 27
                refine (HMT.out _ _ (TT.out.kept SD.bel)).mono ?_
                rintro e wn ⟨rfl, hbn⟩
                have S9 := SD.step hbn
                have HB9 := Lib.hid (Below.step (Below.refl _ wc).drew hbn)
                have zq := hbn.size
                clear hbn
                dsimp only
                refine HK.out _ _ (fun _ => FC.out _ HB9.out) ?_
                have HS := FC.out _ HB9.out
                try simp only [Act.put, List.setIfInBounds_toArray, List.set_cons_zero, List.set_cons_succ]
                refine wpH.one (i := 7) (by kernel_rfl) ?_
                intro oi ho
                simp only [List.getElem?_toArray, List.getElem?_cons_succ, List.getElem?_cons_zero, Option.some.injEq] at ho
                subst ho
                intro K hK
                have HK := Lib.hid hK
                clear hK
                go_simp
                have S10 := S9.alloc (.cells (madeCells (Value.agg #[.int .i64 0, .slice none 0 0]).cells (M * 2)) 38)
                have HB10 := Lib.hid (HB9.out.alloc (HB9.out.size) (.cells (madeCells (Value.agg #[.int .i64 0, .slice none 0 0]).cells (M * 2)) 38))
                refine HK.out _ _ (fun _ => FC.out _ HB10.out) ?_
                have HS := FC.out _ HB10.out
                try simp only [Act.put, List.setIfInBounds_toArray, List.set_cons_zero, List.set_cons_succ]
                refine wpH.one (i := 8) (by kernel_rfl) ?_
                intro oi ho
                simp only [List.getElem?_toArray, List.getElem?_cons_succ, List.getElem?_cons_zero, Option.some.injEq] at ho
                subst ho
                intro K hK
                have HK := Lib.hid hK
                clear hK
                go_simp
                go_at_call 46
                refine (fit35 M t q (fun _ => zeroT) (fun b => b < (wn.alloc (.cells (madeCells (Value.agg #[.int .i64 0, .slice none 0 0]).cells (M * 2)) 38)).heap.size) _ _ _ _ _ (fun _ h => h) ((TT.out.kept S10.bel).foot) ((HQT.out.kept S10.bel).foot) (RowP.made (heap_ofAlloc _ _) _ (by simp)) HTL.out (by omega)).mono ?_
                rintro e w12 ⟨ro2, rc2, rfl, _, hb12⟩
                have S12 := S10.step hb12
                have HB12 := Lib.hid (Below.step HB10.out hb12)
                clear hb12
                dsimp only
                refine HK.out _ _ (fun _ => FC.out _ HB12.out) ?_
                have HS := FC.out _ HB12.out
                try simp only [Act.put, List.setIfInBounds_toArray, List.set_cons_zero, List.set_cons_succ]
                refine wpH.one (i := 9) (by kernel_rfl) ?_
                intro oi ho
                simp only [List.getElem?_toArray, List.getElem?_cons_succ, List.getElem?_cons_zero, Option.some.injEq] at ho
                subst ho
                intro K hK
                have HK := Lib.hid hK
                clear hK
                go_simp
                refine HK.out _ _ (fun _ => FC.out _ HB12.out) ?_
                have HS := FC.out _ HB12.out
                try simp only [Act.put, List.setIfInBounds_toArray, List.set_cons_zero, List.set_cons_succ]
                refine wpH.take (i := 10) (by kernel_rfl) (by kernel_rfl) (by kernel_rfl) (by kernel_rfl) (by kernel_rfl) HS ?_
                intro oi ho
                simp only [List.getElem?_toArray, List.getElem?_cons_succ, List.getElem?_cons_zero, Option.some.injEq] at ho
                subst ho
                refine ⟨?_, Or.inl ⟨by rfl, ?_⟩, fun _ _ _ h => h, ?_⟩
                rotate_left 1
                · intro W hW
                  try dsimp only at hW
                  go_simp
                  try with_reducible rfl
                simp only [Act.put, List.setIfInBounds_toArray, List.set_cons_zero, List.set_cons_succ]
                refine wpH.take (i := 11) (by kernel_rfl) (by kernel_rfl) (by kernel_rfl) (by kernel_rfl) (by kernel_rfl) HS ?_
                intro oi ho
                simp only [List.getElem?_toArray, List.getElem?_cons_succ, List.getElem?_cons_zero, Option.some.injEq] at ho
                subst ho
                refine ⟨?_, Or.inl ⟨by rfl, ?_⟩, fun _ _ _ h => h, ?_⟩
                rotate_left 1
                · intro W hW
                  try dsimp only at hW
                  go_simp
                  try with_reducible rfl
                simp only [Act.put, List.setIfInBounds_toArray, List.set_cons_zero, List.set_cons_succ]
                refine wpH.take (i := 12) (by kernel_rfl) (by kernel_rfl) (by kernel_rfl) (by kernel_rfl) (by kernel_rfl) HS ?_
                intro oi ho
                simp only [List.getElem?_toArray, List.getElem?_cons_succ, List.getElem?_cons_zero, Option.some.injEq] at ho
                subst ho
                refine ⟨?_, Or.inl ⟨by rfl, ?_⟩, fun _ _ _ h => h, ?_⟩
                rotate_left 1
                · intro W hW
                  try dsimp only at hW
                  go_simp
                  try with_reducible rfl
                simp only [Act.put, List.setIfInBounds_toArray, List.set_cons_zero, List.set_cons_succ]
                refine wpH.take (i := 13) (by kernel_rfl) (by kernel_rfl) (by kernel_rfl) (by kernel_rfl) (by kernel_rfl) HS ?_
                intro oi ho
                simp only [List.getElem?_toArray, List.getElem?_cons_succ, List.getElem?_cons_zero, Option.some.injEq] at ho
                subst ho
                refine ⟨?_, Or.inl ⟨by rfl, ?_⟩, fun _ _ _ h => h, ?_⟩
                rotate_left 1
                · intro W hW
                  try dsimp only at hW
                  go_simp
                  try with_reducible rfl
                simp only [Act.put, List.setIfInBounds_toArray, List.set_cons_zero, List.set_cons_succ]
                refine wpH.done (by kernel_rfl) ?_
                have z12 := HB12.out.size
                clear hmk SD S9 S10 HS
                try go_wp2_with fail
                go_meet
                case rel => exact ⟨congrArg Value.bool (by rw [HPBk.out, fitF_isSome]), by omega, S12⟩
              case rest =>
                clear S z1
                obtain ⟨ht18, z1, S⟩ := hcut
                subst ht18
                go_step
                go_upto_region 20 with fail
                go_cut [21] (fun t21 W => ∃ (b21 : Nat) (sk : Option Addr) (ssp : Nat), t21 = .pointer (some ⟨b21, 0, none⟩) ∧ b3 + 1 ≤ W.heap.size ∧ St w W [.box bx #[.int .i64 t.head, .slice tk t.kids.length (t.kids.length + ts)] 38, .box bw #[.int .i64 0, .int .i64 gc] 29, .rowE intE (fun b => b < b3) roa LA, .rowE intE (fun b => b < b3) rob LB, .rowE intE (fun b => b < b3) roc LC, .owns intE (b3 + 1) pF x (idxs pa k), .owns intE (b3 + 1) pF y (idxs pb k), .owns intE (b3 + 1) pF z (idxs pc k), .box b21 #[.int .i64 (shT (M : Int) q).head, .slice sk (shT (M : Int) q).kids.length ((shT (M : Int) q).kids.length + ssp)] 38, .treeP (fun _ => True) (.agg #[.int .i64 (shT (M : Int) q).head, .slice sk (shT (M : Int) q).kids.length ((shT (M : Int) q).kids.length + ssp)]) (shT (M : Int) q)])
                case first =>
                  have HOW := Lib.hid (show (∀ q, x.ownBlock = some q → q < wc.heap.size) ∧ (∀ q, y.ownBlock = some q → q < wc.heap.size) ∧ (∀ q, z.ownBlock = some q → q < wc.heap.size) from ⟨fun q hq => (S.ownlt intE 5 rfl q hq).2, fun q hq => (S.ownlt intE 6 rfl q hq).2, fun q hq => (S.ownlt intE 7 rfl q hq).2⟩)
                  have c0 := Below.cellOf S.bel HC0.out
                  have c1 := Below.cellOf S.bel HC1.out
                  obtain ⟨⟨t0, _⟩, t1, _⟩ := S.two 0
                  have SD : St w wc.drew [.box bx #[.int .i64 t.head, .slice tk t.kids.length (t.kids.length + ts)] 38, .box bw #[.int .i64 0, .int .i64 gc] 29, .rowE intE (fun b => b < b3) roa LA, .rowE intE (fun b => b < b3) rob LB, .rowE intE (fun b => b < b3) roc LC, .owns intE (b3 + 1) pF x (idxs pa k), .owns intE (b3 + 1) pF y (idxs pb k), .owns intE (b3 + 1) pF z (idxs pc k)] := S.drew
                  have FC := Lib.hid (fun W (hb : Below wc.heap.size wc W) => (⟨Below.cellOf hb c0, Below.cellOf hb c1, Below.cellOf hb t0, Below.cellOf hb t1⟩ : _ ∧ _ ∧ _ ∧ _))
                  clear S c0 c1 t0 t1
                  refine wpH_region [8] (fun W => W.cell? ⟨b, off + k * 2, none⟩ = some (.int .i64 q.head) ∧ W.cell? ⟨b, off + k * 2 + 1, none⟩ = some (.slice ko q.kids.length (q.kids.length + ksp)) ∧ W.cell? ⟨bx, 0, none⟩ = some (.int .i64 t.head) ∧ W.cell? ⟨bx, 1, none⟩ = some (.slice tk t.kids.length (t.kids.length + ts))) (by kernel_rfl) ?_
                  have HS := FC.out _ (Below.refl _ wc).drew
                  refine wpH.take (i := 0) (by kernel_rfl) (by kernel_rfl) (by kernel_rfl) (by kernel_rfl) (by kernel_rfl) HS ?_
                  intro oi ho
                  simp only [List.getElem?_toArray, List.getElem?_cons_zero, Option.some.injEq] at ho
                  subst ho
                  refine ⟨?_, Or.inl ⟨by rfl, ?_⟩, fun _ _ _ h => h, ?_⟩
                  rotate_left 1
                  · intro W hW
                    try dsimp only at hW
                    go_simp
                    try with_reducible rfl
                  simp only [Act.put, List.setIfInBounds_toArray, List.set_cons_zero, List.set_cons_succ]
                  refine wpH.take (i := 1) (by kernel_rfl) (by kernel_rfl) (by kernel_rfl) (by kernel_rfl) (by kernel_rfl) HS ?_
                  intro oi ho
                  simp only [List.getElem?_toArray, List.getElem?_cons_succ, List.getElem?_cons_zero, Option.some.injEq] at ho
                  subst ho
                  refine ⟨?_, Or.inl ⟨by rfl, ?_⟩, fun _ _ _ h => h, ?_⟩
                  rotate_left 1
                  · intro W hW
                    try dsimp only at hW
                    go_simp
                    try with_reducible rfl
                  simp only [Act.put, List.setIfInBounds_toArray, List.set_cons_zero, List.set_cons_succ]
                  refine wpH.take (i := 2) (by kernel_rfl) (by kernel_rfl) (by kernel_rfl) (by kernel_rfl) (by kernel_rfl) HS ?_
                  intro oi ho
                  simp only [List.getElem?_toArray, List.getElem?_cons_succ, List.getElem?_cons_zero, Option.some.injEq] at ho
                  subst ho
                  refine ⟨?_, Or.inl ⟨by rfl, ?_⟩, fun _ _ _ h => h, ?_⟩
                  rotate_left 1
                  · intro W hW
                    try dsimp only at hW
                    go_simp
                    try with_reducible rfl
                  simp only [Act.put, List.setIfInBounds_toArray, List.set_cons_zero, List.set_cons_succ]
                  refine wpH.take (i := 3) (by kernel_rfl) (by kernel_rfl) (by kernel_rfl) (by kernel_rfl) (by kernel_rfl) HS ?_
                  intro oi ho
                  simp only [List.getElem?_toArray, List.getElem?_cons_succ, List.getElem?_cons_zero, Option.some.injEq] at ho
                  subst ho
                  refine ⟨?_, Or.inl ⟨by rfl, ?_⟩, fun _ _ _ h => h, ?_⟩
                  rotate_left 1
                  · intro W hW
                    try dsimp only at hW
                    go_simp
                    try with_reducible rfl
                  simp only [Act.put, List.setIfInBounds_toArray, List.set_cons_zero, List.set_cons_succ]
                  refine wpH.take (i := 4) (by kernel_rfl) (by kernel_rfl) (by kernel_rfl) (by kernel_rfl) (by kernel_rfl) HS ?_
                  intro oi ho
                  simp only [List.getElem?_toArray, List.getElem?_cons_succ, List.getElem?_cons_zero, Option.some.injEq] at ho
                  subst ho
                  refine ⟨?_, Or.inl ⟨by rfl, ?_⟩, fun _ _ _ h => h, ?_⟩
                  rotate_left 1
                  · intro W hW
                    try dsimp only at hW
                    go_simp
                    try with_reducible rfl
                  simp only [Act.put, List.setIfInBounds_toArray, List.set_cons_zero, List.set_cons_succ]
                  refine wpH.two (i := 5) (j := 7) (by kernel_rfl) ?_ ?_
                  · intro oi ho
                    simp only [List.getElem?_toArray, List.getElem?_cons_succ, List.getElem?_cons_zero, Option.some.injEq] at ho
                    subst ho
                    intro K hK
                    have HK := Lib.hid hK
                    clear hK
                    go_simp
                    go_at_call 27
                    refine (HMT.out _ _ (TT.out.kept SD.bel)).mono ?_
                    rintro e wn ⟨rfl, hbn⟩
                    have S9 := SD.step hbn
                    have HB9 := Lib.hid (Below.step (Below.refl _ wc).drew hbn)
                    have zq := hbn.size
                    clear hbn
                    dsimp only
                    refine HK.out _ _ (fun _ => FC.out _ HB9.out) ?_
                    have HS := FC.out _ HB9.out
                    try simp only [Act.put, List.setIfInBounds_toArray, List.set_cons_zero, List.set_cons_succ]
                    have zm : wc.heap.size ≤ wn.heap.size := by have h := HB9.out.size; (try simp at h); omega
                    refine wpH.two (i := 6) (j := 7) (by kernel_rfl) ?_ ?_
                    · intro oi ho
                      simp only [List.getElem?_toArray, List.getElem?_cons_succ, List.getElem?_cons_zero, Option.some.injEq] at ho
                      subst ho
                      intro K hK
                      have HK := Lib.hid hK
                      clear hK
                      go_simp
                      go_at_call 47
                      refine (moved47 (M : Int) (by omega) (by omega) q _ _ (HQT.out.kept S9.bel) (low_of_pre q (ok_parts HOQ.out).1) (ok_thin HOQ.out)).mono ?_
                      rintro e ws ⟨u, rfl, hu, hbs⟩
                      obtain ⟨sk, ssp, rfl⟩ := hu.at.form
                      have S10 := (S9.step hbs).add (.treeP (fun b => wn.heap.size ≤ b ∧ b < ws.heap.size) (.agg #[.int .i64 (shT (M : Int) q).head, .slice sk (shT (M : Int) q).kids.length ((shT (M : Int) q).kids.length + ssp)]) (shT (M : Int) q)) (hu.mono (fun b h h2 => ⟨by simpa using h, h2⟩))
                      have HB10 := Lib.hid (Below.step HB9.out hbs)
                      have zs := hbs.size
                      clear hu hbs
                      dsimp only
                      refine HK.out _ _ (fun _ => FC.out _ HB10.out) ?_
                      have HS := FC.out _ HB10.out
                      try simp only [Act.put, List.setIfInBounds_toArray, List.set_cons_zero, List.set_cons_succ]
                      refine wpH.one (i := 7) (by kernel_rfl) ?_
                      intro oi ho
                      simp only [List.getElem?_toArray, List.getElem?_cons_succ, List.getElem?_cons_zero, Option.some.injEq] at ho
                      subst ho
                      intro K hK
                      have HK := Lib.hid hK
                      clear hK
                      go_simp
                      have S11 := S10.box (b := ws.heap.size) rfl #[.int .i64 0, .slice none 0 0] 38
                      have HB11 := Lib.hid (HB10.out.alloc (HB10.out.size) (.cells #[.int .i64 0, .slice none 0 0] 38))
                      refine HK.out _ _ (fun _ => FC.out _ HB11.out) ?_
                      have HS := FC.out _ HB11.out
                      try simp only [Act.put, List.setIfInBounds_toArray, List.set_cons_zero, List.set_cons_succ]
                      refine wpH.one (i := 8) (by kernel_rfl) ?_
                      intro oi ho
                      simp only [List.getElem?_toArray, List.getElem?_cons_succ, List.getElem?_cons_zero, Option.some.injEq] at ho
                      subst ho
                      intro K hK
                      have HK := Lib.hid hK
                      clear hK
                      obtain ⟨⟨e0, e1⟩, e2, e3⟩ := S11.two 9
                      have hl21 := S11.lt 9
                      go_simp
                      refine HK.out _ _ (fun h => absurd h (by decide)) ?_
                      try simp only [Act.put, List.setIfInBounds_toArray, List.set_cons_zero, List.set_cons_succ]
                      refine wpH.done (by kernel_rfl) ?_
                      have n0 : wc.heap.size ≤ ws.heap.size := by first | exact Nat.le_refl _ | (have h := zs; have h' := zm; have h'' := zq; (try simp at h); (try simp at h'); (try simp at h''); omega)
                      have n1 : ¬ x.ownBlock = some ws.heap.size := fun h => by have := HOW.out.1 _ h; omega
                      have n2 : ¬ y.ownBlock = some ws.heap.size := fun h => by have := HOW.out.2.1 _ h; omega
                      have n3 : ¬ z.ownBlock = some ws.heap.size := fun h => by have := HOW.out.2.2 _ h; omega
                      have nf : ∀ b, ¬ pF b := fun b h => h
                      have SF := S11.set2 9 rfl (.int .i64 (shT (M : Int) q).head) (.slice sk (shT (M : Int) q).kids.length ((shT (M : Int) q).kids.length + ssp)) (by have := HB3.out; have := HBX.out; omega) (by
                        have hB := HB3.out
                        have hX := HBX.out
                        have hz1 := zs
                        have hz2 := zm
                        have hz3 := zq
                        try simp at hz1
                        try simp at hz2
                        try simp at hz3
                        simp only [fsnoc, offs, offAll, Fct.box, Fct.rowE, Fct.owns, Fct.treeP, n1, n2, n3, nf, or_self, not_false_eq_true, true_and, and_true]
                        omega)
                      have SG := (SF.pick [0, 1, 2, 3, 4, 5, 6, 7, 9]).add (.treeP (fun _ => True) (.agg #[.int .i64 (shT (M : Int) q).head, .slice sk (shT (M : Int) q).kids.length ((shT (M : Int) q).kids.length + ssp)]) (shT (M : Int) q)) ((St.treeP SF 8 rfl).mono (fun q h _ => trivial))
                      have SH := Lib.hid SG
                      have hz : b3 + 1 ≤ wc.heap.size := z1
                      clear SF SG S9 S10 S11 SD HS e0 e1 e2 e3 n1 n2 n3 nf
                      try go_wp2_with fail
                      go_meet
                      case rel => exact ⟨ws.heap.size, sk, ssp, rfl, by simp; have h := zs; have h' := zm; have h'' := zq; (try simp at h); (try simp at h'); (try simp at h''); omega, by have h := SH.out; first | exact h | (rw [World.setCell_alloc_at _ _ _ _ _ rfl] at h; exact h) | (rw [World.setCell_alloc_at _ _ _ _ _ rfl, World.setCell_alloc_at _ _ _ _ _ rfl] at h; exact h)⟩
                    · intro oi ho
                      simp only [List.getElem?_toArray, List.getElem?_cons_succ, List.getElem?_cons_zero, Option.some.injEq] at ho
                      subst ho
                      intro K hK
                      have HK := Lib.hid hK
                      clear hK
                      go_simp
                      have S10 := S9.box (b := wn.heap.size) rfl #[.int .i64 0, .slice none 0 0] 38
                      have HB10 := Lib.hid (HB9.out.alloc (HB9.out.size) (.cells #[.int .i64 0, .slice none 0 0] 38))
                      refine HK.out _ _ (fun _ => FC.out _ HB10.out) ?_
                      have HS := FC.out _ HB10.out
                      try simp only [Act.put, List.setIfInBounds_toArray, List.set_cons_zero, List.set_cons_succ]
                      refine wpH.one (i := 6) (by kernel_rfl) ?_
                      intro oi ho
                      simp only [List.getElem?_toArray, List.getElem?_cons_succ, List.getElem?_cons_zero, Option.some.injEq] at ho
                      subst ho
                      intro K hK
                      have HK := Lib.hid hK
                      clear hK
                      go_simp
                      go_at_call 47
                      refine (moved47 (M : Int) (by omega) (by omega) q _ _ (HQT.out.kept S10.bel) (low_of_pre q (ok_parts HOQ.out).1) (ok_thin HOQ.out)).mono ?_
                      rintro e ws ⟨u, rfl, hu, hbs⟩
                      obtain ⟨sk, ssp, rfl⟩ := hu.at.form
                      have S11 := (S10.step hbs).add (.treeP (fun b => wn.heap.size + 1 ≤ b ∧ b < ws.heap.size) (.agg #[.int .i64 (shT (M : Int) q).head, .slice sk (shT (M : Int) q).kids.length ((shT (M : Int) q).kids.length + ssp)]) (shT (M : Int) q)) (hu.mono (fun b h h2 => ⟨by simpa using h, h2⟩))
                      have HB11 := Lib.hid (Below.step HB10.out hbs)
                      have zs := hbs.size
                      clear hu hbs
                      dsimp only
                      refine HK.out _ _ (fun _ => FC.out _ HB11.out) ?_
                      have HS := FC.out _ HB11.out
                      try simp only [Act.put, List.setIfInBounds_toArray, List.set_cons_zero, List.set_cons_succ]
                      refine wpH.one (i := 8) (by kernel_rfl) ?_
                      intro oi ho
                      simp only [List.getElem?_toArray, List.getElem?_cons_succ, List.getElem?_cons_zero, Option.some.injEq] at ho
                      subst ho
                      intro K hK
                      have HK := Lib.hid hK
                      clear hK
                      obtain ⟨⟨e0, e1⟩, e2, e3⟩ := S11.two 8
                      have hl21 := S11.lt 8
                      go_simp
                      refine HK.out _ _ (fun h => absurd h (by decide)) ?_
                      try simp only [Act.put, List.setIfInBounds_toArray, List.set_cons_zero, List.set_cons_succ]
                      refine wpH.done (by kernel_rfl) ?_
                      have n0 : wc.heap.size ≤ wn.heap.size := by first | exact Nat.le_refl _ | (have h := zs; have h' := zm; have h'' := zq; (try simp at h); (try simp at h'); (try simp at h''); omega)
                      have n1 : ¬ x.ownBlock = some wn.heap.size := fun h => by have := HOW.out.1 _ h; omega
                      have n2 : ¬ y.ownBlock = some wn.heap.size := fun h => by have := HOW.out.2.1 _ h; omega
                      have n3 : ¬ z.ownBlock = some wn.heap.size := fun h => by have := HOW.out.2.2 _ h; omega
                      have nf : ∀ b, ¬ pF b := fun b h => h
                      have SF := S11.set2 8 rfl (.int .i64 (shT (M : Int) q).head) (.slice sk (shT (M : Int) q).kids.length ((shT (M : Int) q).kids.length + ssp)) (by have := HB3.out; have := HBX.out; omega) (by
                        have hB := HB3.out
                        have hX := HBX.out
                        have hz1 := zs
                        have hz2 := zm
                        have hz3 := zq
                        try simp at hz1
                        try simp at hz2
                        try simp at hz3
                        simp only [fsnoc, offs, offAll, Fct.box, Fct.rowE, Fct.owns, Fct.treeP, n1, n2, n3, nf, or_self, not_false_eq_true, true_and, and_true]
                        omega)
                      have SG := (SF.pick [0, 1, 2, 3, 4, 5, 6, 7, 8]).add (.treeP (fun _ => True) (.agg #[.int .i64 (shT (M : Int) q).head, .slice sk (shT (M : Int) q).kids.length ((shT (M : Int) q).kids.length + ssp)]) (shT (M : Int) q)) ((St.treeP SF 9 rfl).mono (fun q h _ => trivial))
                      have SH := Lib.hid SG
                      have hz : b3 + 1 ≤ wc.heap.size := z1
                      clear SF SG S9 S10 S11 SD HS e0 e1 e2 e3 n1 n2 n3 nf
                      try go_wp2_with fail
                      go_meet
                      case rel => exact ⟨wn.heap.size, sk, ssp, rfl, by simp; have h := zs; have h' := zm; have h'' := zq; (try simp at h); (try simp at h'); (try simp at h''); omega, by have h := SH.out; first | exact h | (rw [World.setCell_alloc_at _ _ _ _ _ rfl] at h; exact h) | (rw [World.setCell_alloc_at _ _ _ _ _ rfl, World.setCell_alloc_at _ _ _ _ _ rfl] at h; exact h)⟩
                  · intro oi ho
                    simp only [List.getElem?_toArray, List.getElem?_cons_succ, List.getElem?_cons_zero, Option.some.injEq] at ho
                    subst ho
                    intro K hK
                    have HK := Lib.hid hK
                    clear hK
                    go_simp
                    have S9 := SD.box (b := wc.heap.size) rfl #[.int .i64 0, .slice none 0 0] 38
                    have HB9 := Lib.hid ((Below.refl _ wc).drew.alloc (by show wc.heap.size ≤ _; simp) (.cells #[.int .i64 0, .slice none 0 0] 38))
                    refine HK.out _ _ (fun _ => FC.out _ HB9.out) ?_
                    have HS := FC.out _ HB9.out
                    try simp only [Act.put, List.setIfInBounds_toArray, List.set_cons_zero, List.set_cons_succ]
                    refine wpH.one (i := 5) (by kernel_rfl) ?_
                    intro oi ho
                    simp only [List.getElem?_toArray, List.getElem?_cons_succ, List.getElem?_cons_zero, Option.some.injEq] at ho
                    subst ho
                    intro K hK
                    have HK := Lib.hid hK
                    clear hK
                    go_simp
                    go_at_call 27
                    refine (HMT.out _ _ (TT.out.kept S9.bel)).mono ?_
                    rintro e wn ⟨rfl, hbn⟩
                    have S10 := S9.step hbn
                    have HB10 := Lib.hid (Below.step HB9.out hbn)
                    have zq := hbn.size
                    clear hbn
                    dsimp only
                    refine HK.out _ _ (fun _ => FC.out _ HB10.out) ?_
                    have HS := FC.out _ HB10.out
                    try simp only [Act.put, List.setIfInBounds_toArray, List.set_cons_zero, List.set_cons_succ]
                    have zm : wc.heap.size ≤ wn.heap.size := by have h := HB10.out.size; (try simp at h); omega
                    refine wpH.one (i := 6) (by kernel_rfl) ?_
                    intro oi ho
                    simp only [List.getElem?_toArray, List.getElem?_cons_succ, List.getElem?_cons_zero, Option.some.injEq] at ho
                    subst ho
                    intro K hK
                    have HK := Lib.hid hK
                    clear hK
                    go_simp
                    go_at_call 47
                    refine (moved47 (M : Int) (by omega) (by omega) q _ _ (HQT.out.kept S10.bel) (low_of_pre q (ok_parts HOQ.out).1) (ok_thin HOQ.out)).mono ?_
                    rintro e ws ⟨u, rfl, hu, hbs⟩
                    obtain ⟨sk, ssp, rfl⟩ := hu.at.form
                    have S11 := (S10.step hbs).add (.treeP (fun b => wn.heap.size ≤ b ∧ b < ws.heap.size) (.agg #[.int .i64 (shT (M : Int) q).head, .slice sk (shT (M : Int) q).kids.length ((shT (M : Int) q).kids.length + ssp)]) (shT (M : Int) q)) (hu.mono (fun b h h2 => ⟨by simpa using h, h2⟩))
                    have HB11 := Lib.hid (Below.step HB10.out hbs)
                    have zs := hbs.size
                    clear hu hbs
                    dsimp only
                    refine HK.out _ _ (fun _ => FC.out _ HB11.out) ?_
                    have HS := FC.out _ HB11.out
                    try simp only [Act.put, List.setIfInBounds_toArray, List.set_cons_zero, List.set_cons_succ]
                    refine wpH.one (i := 8) (by kernel_rfl) ?_
                    intro oi ho
                    simp only [List.getElem?_toArray, List.getElem?_cons_succ, List.getElem?_cons_zero, Option.some.injEq] at ho
                    subst ho
                    intro K hK
                    have HK := Lib.hid hK
                    clear hK
                    obtain ⟨⟨e0, e1⟩, e2, e3⟩ := S11.two 8
                    have hl21 := S11.lt 8
                    go_simp
                    refine HK.out _ _ (fun h => absurd h (by decide)) ?_
                    try simp only [Act.put, List.setIfInBounds_toArray, List.set_cons_zero, List.set_cons_succ]
                    refine wpH.done (by kernel_rfl) ?_
                    have n0 : wc.heap.size ≤ wc.heap.size := by first | exact Nat.le_refl _ | (have h := zs; have h' := zm; have h'' := zq; (try simp at h); (try simp at h'); (try simp at h''); omega)
                    have n1 : ¬ x.ownBlock = some wc.heap.size := fun h => by have := HOW.out.1 _ h; omega
                    have n2 : ¬ y.ownBlock = some wc.heap.size := fun h => by have := HOW.out.2.1 _ h; omega
                    have n3 : ¬ z.ownBlock = some wc.heap.size := fun h => by have := HOW.out.2.2 _ h; omega
                    have nf : ∀ b, ¬ pF b := fun b h => h
                    have SF := S11.set2 8 rfl (.int .i64 (shT (M : Int) q).head) (.slice sk (shT (M : Int) q).kids.length ((shT (M : Int) q).kids.length + ssp)) (by have := HB3.out; have := HBX.out; omega) (by
                      have hB := HB3.out
                      have hX := HBX.out
                      have hz1 := zs
                      have hz2 := zm
                      have hz3 := zq
                      try simp at hz1
                      try simp at hz2
                      try simp at hz3
                      simp only [fsnoc, offs, offAll, Fct.box, Fct.rowE, Fct.owns, Fct.treeP, n1, n2, n3, nf, or_self, not_false_eq_true, true_and, and_true]
                      omega)
                    have SG := (SF.pick [0, 1, 2, 3, 4, 5, 6, 7, 8]).add (.treeP (fun _ => True) (.agg #[.int .i64 (shT (M : Int) q).head, .slice sk (shT (M : Int) q).kids.length ((shT (M : Int) q).kids.length + ssp)]) (shT (M : Int) q)) ((St.treeP SF 9 rfl).mono (fun q h _ => trivial))
                    have SH := Lib.hid SG
                    have hz : b3 + 1 ≤ wc.heap.size := z1
                    clear SF SG S9 S10 S11 SD HS e0 e1 e2 e3 n1 n2 n3 nf
                    try go_wp2_with fail
                    go_meet
                    case rel => exact ⟨wc.heap.size, sk, ssp, rfl, by simp; have h := zs; have h' := zm; have h'' := zq; (try simp at h); (try simp at h'); (try simp at h''); omega, by have h := SH.out; first | exact h | (rw [World.setCell_alloc_at _ _ _ _ _ rfl] at h; exact h) | (rw [World.setCell_alloc_at _ _ _ _ _ rfl, World.setCell_alloc_at _ _ _ _ _ rfl] at h; exact h)⟩
                case rest =>
                  clear S z1
                  obtain ⟨b21, sk, ssp, rfl, z1, S⟩ := hcut
                  go_step
                  obtain ⟨⟨t0, _⟩, t1, _⟩ := S.two 0
                  go_wp2_with fail
                  refine (S.quiet (HMT.out wc _ (TT.out.kept S.bel))).mono ?_
                  rintro e wd ⟨rfl, zd, Sd⟩
                  clear S t0 t1
                  obtain ⟨N0, hN0⟩ : ∃ N0 : Nat, (N0 : Int) = (shT (M : Int) q).most := ⟨(shT (M : Int) q).most.toNat, by have := (shT (M : Int) q).most_nonneg; omega⟩
                  have hN16 : N0 ≤ 16 := by have := sh_most HOQ.out M hM8; omega
                  have HSL := Lib.hid (show (shT (M : Int) q).low from sh_low HOQ.out M hM8)
                  have HMS := Lib.hid (fun W v (h : TreeAt W v (shT (M : Int) q)) => show Calls Try.prog 27 #[v] W fun e w' => e = .returned (.int .i64 (N0 : Int)) ∧ Below W.heap.size W w' by rw [hN0]; exact most30 (shT (M : Int) q) v W HSL.out h)
                  have HN0 := Lib.hid hN0
                  clear hN0
                  obtain ⟨⟨t0, _⟩, t1, _⟩ := Sd.two 8
                  go_wp2_with fail
                  refine (Sd.quiet (HMS.out wd _ (Sd.treeP 9).at)).mono ?_
                  rintro e we ⟨rfl, ze, Se⟩
                  clear Sd t0 t1
                  go_upto_if 127 with fail
                  go_cut [22] (fun t22 W => ∃ N : Nat, t22 = .int .i64 N ∧ M ≤ N ∧ N0 ≤ N ∧ N ≤ 16 ∧ b3 + 1 ≤ W.heap.size ∧ St w W [.box bx #[.int .i64 t.head, .slice tk t.kids.length (t.kids.length + ts)] 38, .box bw #[.int .i64 0, .int .i64 gc] 29, .rowE intE (fun b => b < b3) roa LA, .rowE intE (fun b => b < b3) rob LB, .rowE intE (fun b => b < b3) roc LC, .owns intE (b3 + 1) pF x (idxs pa k), .owns intE (b3 + 1) pF y (idxs pb k), .owns intE (b3 + 1) pF z (idxs pc k), .box b21 #[.int .i64 (shT (M : Int) q).head, .slice sk (shT (M : Int) q).kids.length ((shT (M : Int) q).kids.length + ssp)] 38, .treeP (fun _ => True) (.agg #[.int .i64 (shT (M : Int) q).head, .slice sk (shT (M : Int) q).kids.length ((shT (M : Int) q).kids.length + ssp)]) (shT (M : Int) q)])
                  case first =>
                    by_cases hm : (N0 : Int) > (M : Int)
                    · obtain ⟨⟨t0, _⟩, t1, _⟩ := Se.two 8
                      go_wp2_with fail
                      refine (Se.quiet (HMS.out we _ (Se.treeP 9).at)).mono ?_
                      rintro e wf ⟨rfl, zf, Sf⟩
                      clear Se t0 t1
                      go_wp2_with fail
                      go_meet
                      case rel => exact ⟨N0, rfl, by omega, Nat.le_refl _, hN16, by omega, Sf⟩
                    · go_wp2_with fail
                      go_meet
                      case rel => exact ⟨M, rfl, Nat.le_refl _, by omega, by omega, by omega, Se⟩
                  case rest =>
                    clear Se ze zd z1 hN16
                    obtain ⟨N, rfl, hMN, hN0N, hN16, z1, S⟩ := hcut
                    go_step
                    have HSO := Lib.hid (sh_start (N := N) HOQ.out HOT.out M hM8 (by have := HTE.out; omega) (by have := HN0.out; omega) (by omega))
                    obtain ⟨⟨t0, _⟩, t1, _⟩ := S.two 0
                    obtain ⟨⟨s0, _⟩, s1, _⟩ := S.two 8
                    go_wp2_with fail
                    refine (mgu34 t (shT (M : Int) q) N _ _ wc (TT.out.kept S.bel) (S.treeP 9).at HSO.out.le HSO.out.mg HSO.out.nz HSO.out.sml).mono ?_
                    rintro e w20 ⟨L2, cm, ro2, rc2, rfl, HMA, _, hb20⟩
                    have HLAW := Lib.hid (meet_law HOQ.out HOT.out M HTE.out HMA)
                    have z20 := Nat.le_trans z1 hb20.size
                    have S20 := Lib.hid ((S.pick [0, 1, 2, 3, 4, 5, 6, 7]).step hb20)
                    clear S hb20 HMA t0 t1 s0 s1 z1
                    by_cases h3 : cm = 3
                    · subst h3
                      have SE := Lib.hid S20.out.bel
                      clear S20
                      go_wp2_with fail
                      go_ret
                      exact ⟨rfl, SE.out⟩
                    · have HCM := Lib.hid (show decide ((cm : Int) > 0) = pc k by
                        rcases HLAW.out with h | h
                        · exact absurd h h3
                        · rw [h.2, HPCk.out])
                      have h3i : ¬ (cm : Int) = 3 := by omega
                      obtain ⟨W0, hW0⟩ : ∃ W, W = w20 := ⟨_, rfl⟩
                      subst hW0
                      have z1 : b3 + 1 ≤ W0.heap.size := z20
                      have S : St w W0 [.box bx #[.int .i64 t.head, .slice tk t.kids.length (t.kids.length + ts)] 38, .box bw #[.int .i64 0, .int .i64 gc] 29, .rowE intE (fun b => b < b3) roa LA, .rowE intE (fun b => b < b3) rob LB, .rowE intE (fun b => b < b3) roc LC, .owns intE (b3 + 1) pF x (idxs pa k), .owns intE (b3 + 1) pF y (idxs pb k), .owns intE (b3 + 1) pF z (idxs pc k)] := S20.out
                      clear S20 z20 HLAW h3
                      go_upto_if 139 with fail
                      go_cut [13, 18] (fun o1 tb W => ∃ v' : Value, o1 = v' ∧ tb = .bool (pa k) ∧ Hid (Apart3 v' y z) ∧ b3 + 1 ≤ W.heap.size ∧ St w W [.box bx #[.int .i64 t.head, .slice tk t.kids.length (t.kids.length + ts)] 38, .box bw #[.int .i64 0, .int .i64 gc] 29, .rowE intE (fun b => b < b3) roa LA, .rowE intE (fun b => b < b3) rob LB, .rowE intE (fun b => b < b3) roc LC, .owns intE (b3 + 1) pF v' (idxs pa (k + 1)), .owns intE (b3 + 1) pF y (idxs pb k), .owns intE (b3 + 1) pF z (idxs pc k)])
                      case first =>
                        cases hp : pa k with
                        | true =>
                          have HIX := Lib.hid (show idxs pa (k + 1) = idxs pa k ++ [(k : Int)] by rw [idxs_succ, if_pos hp])
                          have HPK := Lib.hid hp
                          have hw1 : ∀ b, x.ownBlock = some b → b3 + 1 ≤ b ∧ b < W0.heap.size := fun b hb => S.ownlt intE 5 rfl b hb
                          have hw2 : ∀ b, y.ownBlock = some b → b < W0.heap.size := fun b hb => (S.ownlt intE 6 rfl b hb).2
                          have hw3 : ∀ b, z.ownBlock = some b → b < W0.heap.size := fun b hb => (S.ownlt intE 7 rfl b hb).2
                          have HW := Lib.hid (And.intro hw1 (And.intro hw2 hw3))
                          have HLN := Lib.hid (idxs_len pa k)
                          clear hp hw1 hw2 hw3
                          go_wp2_with (at_builtin; refine wpList_app rfl (.tmp 140) (.tmp 142) 22 rfl intE S 5 rfl (x := (k : Int)) (q := pF) (p' := pF) rfl Try.underlying22 gi gz0 gz1 gz2 rfl rfl rfl rfl ?c1 ?c2 ?c3 ?c4 ?c5 ?c6 ?c7 ?_)
                          case c1 => have := HLN.out; unfold maxLen; omega
                          case c2 => have := HLN.out; omega
                          case c3 => exact z1
                          case c4 => have := HBX.out; have := HB3.out; omega
                          case c5 =>
                            intro b h1 h2 h3
                            have hB := HB3.out
                            have h4 := (HAP.out b).1 h1
                            have nf : ¬ pF b := fun h => h
                            simp only [offs, offAll, Fct.box, Fct.rowE, Fct.owns, h4.1, h4.2, nf, or_self, not_false_eq_true, and_true]
                            omega
                          case c6 => intro b h; exact h.elim
                          case c7 => intro b h; rcases h with h | h <;> exact h.elim
                          intro gg cap2 w5 S6 hs6 hgg hat
                          obtain ⟨hw1, hw2, hw3⟩ := HW.out
                          have HAP2 := Lib.hid (Apart3.grow (l := (idxs pa k).length + 1) (c := cap2) HAP.out hat (fun b hb => hw2 _ hb) (fun b hb => hw3 _ hb))
                          have S8 : St w w5 [.box bx #[.int .i64 t.head, .slice tk t.kids.length (t.kids.length + ts)] 38, .box bw #[.int .i64 0, .int .i64 gc] 29, .rowE intE (fun b => b < b3) roa LA, .rowE intE (fun b => b < b3) rob LB, .rowE intE (fun b => b < b3) roc LC, .owns intE (b3 + 1) pF (.slice (some ⟨gg, 0, none⟩) ((idxs pa k).length + 1) cap2) (idxs pa (k + 1)), .owns intE (b3 + 1) pF y (idxs pb k), .owns intE (b3 + 1) pF z (idxs pc k)] := by rw [HIX.out]; exact S6
                          have S9 := Lib.hid S8
                          have z9 : b3 + 1 ≤ w5.heap.size := by have := z1; omega
                          clear S S6 S8 hat hw1 hw2 hw3
                          go_wp2_with fail
                          go_meet
                          case rel => exact ⟨_, rfl, congrArg Value.bool HPK.out.symm, HAP2.out, z9, S9.out⟩
                        | false =>
                          have HPK := Lib.hid hp
                          have HIX := Lib.hid (show idxs pa (k + 1) = idxs pa k by rw [idxs_succ, if_neg (by simp [hp])])
                          have S9 := Lib.hid S
                          clear S hp
                          go_wp2_with fail
                          go_meet
                          case rel => exact ⟨_, rfl, congrArg Value.bool HPK.out.symm, HAP, z1, by rw [HIX.out]; exact S9.out⟩
                      case rest =>
                        clear S z1 HAP
                        obtain ⟨v13, hv', htb, HAP, z1, S⟩ := hcut
                        replace hv' := hv'.symm
                        subst hv'
                        subst htb
                        go_step
                        go_upto_if 144 with fail
                        go_cut [14, 20] (fun o1 tb W => ∃ v' : Value, o1 = v' ∧ tb = .bool (pb k) ∧ Hid (Apart3 v13 v' z) ∧ b3 + 1 ≤ W.heap.size ∧ St w W [.box bx #[.int .i64 t.head, .slice tk t.kids.length (t.kids.length + ts)] 38, .box bw #[.int .i64 0, .int .i64 gc] 29, .rowE intE (fun b => b < b3) roa LA, .rowE intE (fun b => b < b3) rob LB, .rowE intE (fun b => b < b3) roc LC, .owns intE (b3 + 1) pF v13 (idxs pa (k + 1)), .owns intE (b3 + 1) pF v' (idxs pb (k + 1)), .owns intE (b3 + 1) pF z (idxs pc k)])
                        case first =>
                          cases hp : pb k with
                          | true =>
                            have HIX := Lib.hid (show idxs pb (k + 1) = idxs pb k ++ [(k : Int)] by rw [idxs_succ, if_pos hp])
                            have HPK := Lib.hid hp
                            have hw1 : ∀ b, y.ownBlock = some b → b3 + 1 ≤ b ∧ b < wc.heap.size := fun b hb => S.ownlt intE 6 rfl b hb
                            have hw2 : ∀ b, v13.ownBlock = some b → b < wc.heap.size := fun b hb => (S.ownlt intE 5 rfl b hb).2
                            have hw3 : ∀ b, z.ownBlock = some b → b < wc.heap.size := fun b hb => (S.ownlt intE 7 rfl b hb).2
                            have HW := Lib.hid (And.intro hw1 (And.intro hw2 hw3))
                            have HLN := Lib.hid (idxs_len pb k)
                            clear hp hw1 hw2 hw3
                            go_wp2_with (at_builtin; refine wpList_app rfl (.tmp 145) (.tmp 147) 22 rfl intE S 6 rfl (x := (k : Int)) (q := pF) (p' := pF) rfl Try.underlying22 gi gz0 gz1 gz2 rfl rfl rfl rfl ?c1 ?c2 ?c3 ?c4 ?c5 ?c6 ?c7 ?_)
                            case c1 => have := HLN.out; unfold maxLen; omega
                            case c2 => have := HLN.out; omega
                            case c3 => exact z1
                            case c4 => have := HBX.out; have := HB3.out; omega
                            case c5 =>
                              intro b h1 h2 h3
                              have hB := HB3.out
                              have h4 := (HAP.out b).2.1 h1
                              have nf : ¬ pF b := fun h => h
                              simp only [offs, offAll, Fct.box, Fct.rowE, Fct.owns, h4.1, h4.2, nf, or_self, not_false_eq_true, and_true]
                              omega
                            case c6 => intro b h; exact h.elim
                            case c7 => intro b h; rcases h with h | h <;> exact h.elim
                            intro gg cap2 w5 S6 hs6 hgg hat
                            obtain ⟨hw1, hw2, hw3⟩ := HW.out
                            have HAP2 := Lib.hid (Apart3.grow (l := (idxs pb k).length + 1) (c := cap2) HAP.out.rot hat (fun b hb => hw3 _ hb) (fun b hb => hw2 _ hb)).rot.rot
                            have S8 : St w w5 [.box bx #[.int .i64 t.head, .slice tk t.kids.length (t.kids.length + ts)] 38, .box bw #[.int .i64 0, .int .i64 gc] 29, .rowE intE (fun b => b < b3) roa LA, .rowE intE (fun b => b < b3) rob LB, .rowE intE (fun b => b < b3) roc LC, .owns intE (b3 + 1) pF v13 (idxs pa (k + 1)), .owns intE (b3 + 1) pF (.slice (some ⟨gg, 0, none⟩) ((idxs pb k).length + 1) cap2) (idxs pb (k + 1)), .owns intE (b3 + 1) pF z (idxs pc k)] := by rw [HIX.out]; exact S6
                            have S9 := Lib.hid S8
                            have z9 : b3 + 1 ≤ w5.heap.size := by have := z1; omega
                            clear S S6 S8 hat hw1 hw2 hw3
                            go_wp2_with fail
                            go_meet
                            case rel => exact ⟨_, rfl, congrArg Value.bool HPK.out.symm, HAP2.out, z9, S9.out⟩
                          | false =>
                            have HPK := Lib.hid hp
                            have HIX := Lib.hid (show idxs pb (k + 1) = idxs pb k by rw [idxs_succ, if_neg (by simp [hp])])
                            have S9 := Lib.hid S
                            clear S hp
                            go_wp2_with fail
                            go_meet
                            case rel => exact ⟨_, rfl, congrArg Value.bool HPK.out.symm, HAP, z1, by rw [HIX.out]; exact S9.out⟩
                        case rest =>
                          clear S z1 HAP
                          obtain ⟨v14, hv', htb, HAP, z1, S⟩ := hcut
                          replace hv' := hv'.symm
                          subst hv'
                          subst htb
                          go_step
                          cases hp : pc k with
                          | true =>
                            have HIX := Lib.hid (show idxs pc (k + 1) = idxs pc k ++ [(k : Int)] by rw [idxs_succ, if_pos hp])
                            have HPK := Lib.hid hp
                            have hcm : (cm : Int) > 0 := of_decide_eq_true (HCM.out.trans hp)
                            have hw1 : ∀ b, z.ownBlock = some b → b3 + 1 ≤ b ∧ b < wc.heap.size := fun b hb => S.ownlt intE 7 rfl b hb
                            have hw2 : ∀ b, v13.ownBlock = some b → b < wc.heap.size := fun b hb => (S.ownlt intE 5 rfl b hb).2
                            have hw3 : ∀ b, v14.ownBlock = some b → b < wc.heap.size := fun b hb => (S.ownlt intE 6 rfl b hb).2
                            have HW := Lib.hid (And.intro hw1 (And.intro hw2 hw3))
                            have HLN := Lib.hid (idxs_len pc k)
                            clear hp hw1 hw2 hw3
                            go_wp2_with (at_builtin; refine wpList_app rfl (.tmp 151) (.tmp 153) 22 rfl intE S 7 rfl (x := (k : Int)) (q := pF) (p' := pF) rfl Try.underlying22 gi gz0 gz1 gz2 rfl rfl rfl rfl ?c1 ?c2 ?c3 ?c4 ?c5 ?c6 ?c7 ?_)
                            case c1 => have := HLN.out; unfold maxLen; omega
                            case c2 => have := HLN.out; omega
                            case c3 => exact z1
                            case c4 => have := HBX.out; have := HB3.out; omega
                            case c5 =>
                              intro b h1 h2 h3
                              have hB := HB3.out
                              have h4 := (HAP.out b).2.2 h1
                              have nf : ¬ pF b := fun h => h
                              simp only [offs, offAll, Fct.box, Fct.rowE, Fct.owns, h4.1, h4.2, nf, or_self, not_false_eq_true, and_true]
                              omega
                            case c6 => intro b h; exact h.elim
                            case c7 => intro b h; rcases h with h | h <;> exact h.elim
                            intro gg cap2 w5 S6 hs6 hgg hat
                            obtain ⟨hw1, hw2, hw3⟩ := HW.out
                            have HAP2 := Lib.hid (Apart3.grow (l := (idxs pc k).length + 1) (c := cap2) HAP.out.rot.rot hat (fun b hb => hw2 _ hb) (fun b hb => hw3 _ hb)).rot
                            have S8 : St w w5 [.box bx #[.int .i64 t.head, .slice tk t.kids.length (t.kids.length + ts)] 38, .box bw #[.int .i64 0, .int .i64 gc] 29, .rowE intE (fun b => b < b3) roa LA, .rowE intE (fun b => b < b3) rob LB, .rowE intE (fun b => b < b3) roc LC, .owns intE (b3 + 1) pF v13 (idxs pa (k + 1)), .owns intE (b3 + 1) pF v14 (idxs pb (k + 1)), .owns intE (b3 + 1) pF (.slice (some ⟨gg, 0, none⟩) ((idxs pc k).length + 1) cap2) (idxs pc (k + 1))] := by rw [HIX.out]; exact S6
                            have S9 := Lib.hid S8
                            have z9 : b3 + 1 ≤ w5.heap.size := by have := z1; omega
                            clear S S6 S8 hat hw1 hw2 hw3
                            go_wp2_with fail
                            go_roundw
                            case rel => exact ⟨k + 1, v13, v14, _, rfl, rfl, rfl, by omega, by go_num, fun h => absurd rfl h, HAP2.out, z9, S9.out⟩
                            case measure => simp [intOf] <;> omega
                          | false =>
                            have HPK := Lib.hid hp
                            have HIX := Lib.hid (show idxs pc (k + 1) = idxs pc k by rw [idxs_succ, if_neg (by simp [hp])])
                            have hcm : ¬ (cm : Int) > 0 := of_decide_eq_false (HCM.out.trans hp)
                            have S9 := Lib.hid S
                            clear S hp
                            go_wp2_with fail
                            go_roundw
                            case rel => exact ⟨k + 1, v13, v14, _, rfl, rfl, rfl, by omega, by go_num, fun h => absurd rfl h, HAP, z1, by rw [HIX.out]; exact S9.out⟩
                            case measure => simp [intOf] <;> omega
          · have HE := Lib.hid (show LA = idxs pa k ∧ LB = idxs pb k ∧ LC = idxs pc k by
              rw [HLA.out, HLB.out, HLC.out, if_neg hc0, if_neg hc0, if_neg hc0, HK0.out hc0]; exact ⟨rfl, rfl, rfl⟩)
            have hcb : (fc == 0) = false := by simp [hc0]
            have hla := idxs_len pa k
            have hlb := idxs_len pb k
            have hlc := idxs_len pc k
            obtain ⟨ra, sa, rfl, hra, _⟩ := ((Elt.Own.mono (p := pF) (St.owns S intE 5 rfl) (q := fun b => b3 + 1 ≤ b) (fun b h => False.elim h))).row (fun b h => h)
            obtain ⟨rb, sb, rfl, hrb, _⟩ := ((Elt.Own.mono (p := pF) (St.owns S intE 6 rfl) (q := fun b => b3 + 1 ≤ b) (fun b h => False.elim h))).row (fun b h => h)
            obtain ⟨rc, sc, rfl, hrc, _⟩ := ((Elt.Own.mono (p := pF) (St.owns S intE 7 rfl) (q := fun b => b3 + 1 ≤ b) (fun b h => False.elim h))).row (fun b h => h)
            have SR := (((S.pick [2, 3, 4]).add (.rowE intE (fun b => b3 + 1 ≤ b) ra (idxs pa k)) hra).add (.rowE intE (fun b => b3 + 1 ≤ b) rb (idxs pb k)) hrb).add (.rowE intE (fun b => b3 + 1 ≤ b) rc (idxs pc k)) hrc
            have HHA := Lib.hid (fun W (h1 : intE.Row (fun b => b < b3) W roa LA) (h2 : intE.Row (fun b => b3 + 1 ≤ b) W ra (idxs pa k)) => ints56b (ca := rca) (cb := (idxs pa k).length + sa) W h1 h2 HE.out.1 (by omega))
            have HHB := Lib.hid (fun W (h1 : intE.Row (fun b => b < b3) W rob LB) (h2 : intE.Row (fun b => b3 + 1 ≤ b) W rb (idxs pb k)) => ints56b (ca := rcb) (cb := (idxs pb k).length + sb) W h1 h2 HE.out.2.1 (by omega))
            have HHC := Lib.hid (fun W (h1 : intE.Row (fun b => b < b3) W roc LC) (h2 : intE.Row (fun b => b3 + 1 ≤ b) W rc (idxs pc k)) => ints56b (ca := rcc) (cb := (idxs pc k).length + sc) W h1 h2 HE.out.2.2 (by omega))
            clear S hra hrb hrc HAP
            go_wp2_with fail
            refine (SR.quiet (HHA.out wr (SR.rowE intE 0) (SR.rowE intE 3))).mono ?_
            rintro e wa ⟨rfl, za, SA⟩
            clear SR
            go_wp2_with fail
            refine (SA.quiet (HHB.out wa (SA.rowE intE 1) (SA.rowE intE 4))).mono ?_
            rintro e wb ⟨rfl, zb, SB⟩
            clear SA
            go_wp2_with fail
            refine (SB.quiet (HHC.out wb (SB.rowE intE 2) (SB.rowE intE 5))).mono ?_
            rintro e wd ⟨rfl, zd, SD⟩
            have SE := Lib.hid SD.bel
            clear SB SD
            go_wp2_with fail
            go_ret
            exact ⟨rfl, SE.out⟩
        · obtain rfl : k = ks.length := by omega
          have HE := Lib.hid (show LA = idxs pa ks.length ∧ LB = idxs pb ks.length ∧ LC = idxs pc ks.length by
            by_cases hc0 : fc = 0
            · rw [HLA.out, HLB.out, HLC.out, if_pos hc0, if_pos hc0, if_pos hc0]; exact ⟨rfl, rfl, rfl⟩
            · rw [HLA.out, HLB.out, HLC.out, if_neg hc0, if_neg hc0, if_neg hc0, HK0.out hc0]; exact ⟨rfl, rfl, rfl⟩)
          have hla := idxs_len pa ks.length
          have hlb := idxs_len pb ks.length
          have hlc := idxs_len pc ks.length
          obtain ⟨ra, sa, rfl, hra, _⟩ := ((Elt.Own.mono (p := pF) (St.owns S intE 5 rfl) (q := fun b => b3 + 1 ≤ b) (fun b h => False.elim h))).row (fun b h => h)
          obtain ⟨rb, sb, rfl, hrb, _⟩ := ((Elt.Own.mono (p := pF) (St.owns S intE 6 rfl) (q := fun b => b3 + 1 ≤ b) (fun b h => False.elim h))).row (fun b h => h)
          obtain ⟨rc, sc, rfl, hrc, _⟩ := ((Elt.Own.mono (p := pF) (St.owns S intE 7 rfl) (q := fun b => b3 + 1 ≤ b) (fun b h => False.elim h))).row (fun b h => h)
          have SR := (((S.pick [2, 3, 4]).add (.rowE intE (fun b => b3 + 1 ≤ b) ra (idxs pa ks.length)) hra).add (.rowE intE (fun b => b3 + 1 ≤ b) rb (idxs pb ks.length)) hrb).add (.rowE intE (fun b => b3 + 1 ≤ b) rc (idxs pc ks.length)) hrc
          have HHA := Lib.hid (fun W (h1 : intE.Row (fun b => b < b3) W roa LA) (h2 : intE.Row (fun b => b3 + 1 ≤ b) W ra (idxs pa ks.length)) => ints56b (ca := rca) (cb := (idxs pa ks.length).length + sa) W h1 h2 HE.out.1 (by omega))
          have HHB := Lib.hid (fun W (h1 : intE.Row (fun b => b < b3) W rob LB) (h2 : intE.Row (fun b => b3 + 1 ≤ b) W rb (idxs pb ks.length)) => ints56b (ca := rcb) (cb := (idxs pb ks.length).length + sb) W h1 h2 HE.out.2.1 (by omega))
          have HHC := Lib.hid (fun W (h1 : intE.Row (fun b => b < b3) W roc LC) (h2 : intE.Row (fun b => b3 + 1 ≤ b) W rc (idxs pc ks.length)) => ints56b (ca := rcc) (cb := (idxs pc ks.length).length + sc) W h1 h2 HE.out.2.2 (by omega))
          clear S hra hrb hrc HAP
          go_wp2_with fail
          refine (SR.quiet (HHA.out wr (SR.rowE intE 0) (SR.rowE intE 3))).mono ?_
          rintro e wa ⟨rfl, za, SA⟩
          clear SR
          go_wp2_with fail
          refine (SA.quiet (HHB.out wa (SA.rowE intE 1) (SA.rowE intE 4))).mono ?_
          rintro e wb ⟨rfl, zb, SB⟩
          clear SA
          go_wp2_with fail
          refine (SB.quiet (HHC.out wb (SB.rowE intE 2) (SB.rowE intE 5))).mono ?_
          rintro e wd ⟨rfl, zd, SD⟩
          have SE := Lib.hid SD.bel
          clear SB SD
          go_wp2_with fail
          go_ret
          exact ⟨rfl, SE.out⟩
end Go.Proofs.Ytlhnfdjidjgfgaa
namespace Go.Proofs.Ytlhnfdjidjgfgaa.iss
open Go.ChangeShapes Go.WideShapes Go.ChangeAt Go.RowKit
set_option linter.unusedVariables false

section
variable {H : Type} {enc : TypeId × Value → H} {W : World} {held : Bool}
theorem row_arg {d : DataW H} {pl : List MemPlace} {ao : Option Addr} {len cap : Nat} (h : DataW.Trod enc Try.prog W 0 (fun _ => true) held 32 (.slice ao len cap) d pl) : ∃ ks, len = ks.length ∧ RowAt W ao ks ∧ sizeL ks + 1 ≤ Rows.uptoBulk d := by
  obtain ⟨fuel, hf⟩ := h
  obtain ⟨ao', cap', ks, e, _, _, hr, hs⟩ := row_of Try.underlying32 hf (fun n _ cs x h => tree_of n cs x h)
  simp [Value.cells] at e
  obtain ⟨rfl, rfl, rfl⟩ := e
  exact ⟨ks, rfl, hr, hs⟩
end
theorem own : ownKnob Try.prog.godebug = none := by kernel_rfl
theorem laidOut : laidOutB Try.prog = true := by kernel_rfl

set_option maxRecDepth 100000 in
theorem lifted (os : Os) (started : os.Started) (H : Type) (enc : TypeId × Value → H) (F : Stop.Interp) :
    ReturnsInHanded {} Try.checked os 12 .any ((Rows.OpenSpec.upto Rows.indexSaysSpec).pre6 enc Try.prog Try.f12 Rows.indexSaysUptoRow.domain false) (((Rows.OpenSpec.upto Rows.indexSaysSpec).at F).post enc Try.prog Try.f12 false true false false) := by
  refine returnsInHanded_of_cond (C := Try.checked) (s := Rows.OpenSpec.upto Rows.indexSaysSpec) (k := Rows.uptoSmall) rfl own started (by kernel_rfl) Try.func12
    (OpenSpec.witness (enc := enc) (C := Try.checked) (s := Rows.OpenSpec.upto Rows.indexSaysSpec) (k := Rows.uptoSmall) rfl false ⟨#[], #[.slice none 0 0, .agg #[.int .i64 0, .slice none 0 0]], []⟩ 8 (by kernel_rfl) (by kernel_rfl) (by kernel_rfl)
      (x := ([.nil, .agg [.lit (.int .i64 0), .nil]], [], [])) (by kernel_rfl) rfl (by kernel_rfl)) ?_
  intro W base args ds gs before hval0 hW _ hk _
  have hval : ∀ (j : Nat) t v, Try.f12.params[j]? = some t → args[j]? = some v → Value.okWide Try.prog W .any base t v := hval0
  have hW' := hW
  obtain ⟨p, q, hA0, hV, rfl, hfz, hnd⟩ := hW
  have hA : DataW.TrodAll enc Try.prog W 0 (fun _ => true) true Try.f12.params.toList args.toList ds p := hA0
  rw [Try.params12] at hA hval
  obtain ⟨v0, vs0, d0, ds0, p0, q0, hargs, rfl, rfl, h0, r0⟩ := trodAll_cons hA
  obtain ⟨v1, vs1, d1, ds1, p1, q1, rfl, rfl, rfl, h1, r1⟩ := trodAll_cons r0
  obtain ⟨rfl, rfl, rfl⟩ := trodAll_nil r1
  obtain rfl : args = #[v0, v1] := by cases args; simp_all
  obtain ⟨rfl, rfl⟩ := trodVars_none hV
  have hkk := of_decide_eq_true hk
  simp only [List.append_nil, Rows.uptoBulkAll] at hkk
  have k0 := h0
  have lt0 : ∀ x ∈ p0, x.block < W.heap.size := by obtain ⟨m, hm⟩ := k0; exact DataW.trod_lt m _ _ _ hm
  have k1 := h1
  have lt1 : ∀ x ∈ p1, x.block < W.heap.size := by obtain ⟨m, hm⟩ := k1; exact DataW.trod_lt m _ _ _ hm
  obtain ⟨a0, len0, cap0, rfl⟩ := okWide_slice Try.underlying32 (hval 0 32 v0 rfl rfl)
  obtain ⟨t0, rfl, g0, s0⟩ := row_arg h0
  obtain ⟨t1, g1, s1⟩ := tree_arg (okWide_struct Try.underlying38 (hval 1 38 v1 rfl rfl)) h1
  clear hA0 hval0
  refine (indexSays12 _ t0 _ t1 _ W g0 g1 (fun i hi => by have h1 := kid_size hi; omega) (by omega)).mono fun e W' ⟨he, bel⟩ => ?_
  subst he
  exact ⟨_, rfl, _, _, _, [], _, [], hW', trodAll_mk1 (shut_bool Try.underlying4 _),
    (trodAll_cons_mk (Below.trod laidOut (by kernel_rfl) (of_decide_eq_true (by kernel_rfl)) k0 bel lt0) (trodAll_cons_mk (Below.trod laidOut (by kernel_rfl) (of_decide_eq_true (by kernel_rfl)) k1 bel lt1) trodAll_mk0)), rfl, bel.frame _, fun h => by cases h⟩

theorem over : Rows.indexSaysUptoRow.holds Try.pinned (Rows.OpenSpec.upto Rows.indexSaysSpec) :=
  OpenClaim.holds_of_cond 12 Try.f12 rfl rfl rfl rfl rfl rfl rfl ⟨rfl, rfl, rfl, rfl, rfl⟩ rfl rfl rfl rfl rfl (by kernel_rfl) Try.func12 (by kernel_rfl)
    (of_decide_eq_true (by kernel_rfl)) (by unfold Func.isWrapper; first | (rw [if_pos (by decide +kernel)]; kernel_rfl) | (rw [if_neg (by decide +kernel)]; exact ⟨rfl, rfl⟩))
    (fun os started H enc _ F => lifted os started H enc F)

theorem proved : Rows.IndexSaysUptoSaid := over
end Go.Proofs.Ytlhnfdjidjgfgaa.iss
