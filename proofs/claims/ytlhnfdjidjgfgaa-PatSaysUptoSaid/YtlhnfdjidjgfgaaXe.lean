/-
  Plain: matching.
  Walks: tree.Same, slices.EqualFunc over rows of trees.
  Walks: the document's Down.
  Walks: fit.match.
  Walks: fit.Match, fit.Do.
  Walks: binds; what fit.Do says over a state; a made row.
-/
import Derived.Test.YtlhnfdjidjgfgaaSt3
import Derived.Test.YtlhnfdjidjgfgaaXa
import Derived.Test.YtlhnfdjidjgfgaaXc
import Derived.Test.YtlhnfdjidjgfgaaProg
import Derived.Test.YtlhnfdjidjgfgaaBase
import Derived.Test.YtlhnfdjidjgfgaaXb
import Derived.Test.YtlhnfdjidjgfgaaT25
import Derived.IntWalk
import Derived.Deep.DeepCutAuto
import Derived.Test.YtlhnfdjidjgfgaaXd
import Derived.OwnWalk
namespace Go.Proofs.Ytlhnfdjidjgfgaa
open Go.RowKit
set_option linter.unusedVariables false

mutual
noncomputable def T.fit : T → T → (Nat → T) → Option (Nat → T)
  | .node h ks, t, bs => if h < 0 then (if (bs (-h - 1).toNat).head = 0 then some (setT bs (-h - 1).toNat t) else if bs (-h - 1).toNat = t then some bs else none)
      else if h = t.head ∧ ks.length = t.kids.length then fitL ks t.kids bs else none
noncomputable def fitL : List T → List T → (Nat → T) → Option (Nat → T)
  | [], _, bs => some bs
  | _ :: _, [], _ => none
  | k :: r, u :: us, bs => match k.fit u bs with
    | none => none
    | some b => fitL r us b
end
theorem T.fit_eq (p t : T) (bs : Nat → T) : p.fit t bs = if p.head < 0 then (if (bs (-p.head - 1).toNat).head = 0 then some (setT bs (-p.head - 1).toNat t) else if bs (-p.head - 1).toNat = t then some bs else none)
      else if p.head = t.head ∧ p.kids.length = t.kids.length then fitL p.kids t.kids bs else none := by cases p; rw [T.fit]; rfl
theorem fitL_step {ks ts : List T} {q : Nat} {bs : Nat → T} (h1 : q < ks.length) (h2 : q < ts.length) :
    fitL (ks.drop q) (ts.drop q) bs = match (gK ks q).fit (gK ts q) bs with | none => none | some b => fitL (ks.drop (q + 1)) (ts.drop (q + 1)) b := by
  rw [drop_gK h1, drop_gK h2, fitL]
theorem kid_most {t : T} {i : Nat} (h : i < t.kids.length) : (gK t.kids i).most ≤ t.most := by
  have key : ∀ (l : List T) (i : Nat), i < l.length → (gK l i).most ≤ mostL l := by
    intro l
    induction l with
    | nil => intro i hi; simp at hi
    | cons x r ih =>
      intro i hi
      cases i with
      | zero => simp only [gK, List.getD_cons_zero, mostL]; omega
      | succ i => have := ih i (by simpa using hi); simp only [gK, List.getD_cons_succ, mostL] at this ⊢; omega
  have := key t.kids i h
  rw [T.most_eq t]; split <;> omega
theorem head_most (t : T) : -t.head ≤ t.most := by rw [T.most_eq]; have := mostL_nonneg t.kids; split <;> omega
end Go.Proofs.Ytlhnfdjidjgfgaa
namespace Go.Proofs.Ytlhnfdjidjgfgaa
open Go.RowKit Go.Shelf
set_option linter.unusedVariables false
set_option maxHeartbeats 400000

theorem list_ext_gK {a b : List T} (hl : a.length = b.length) (hk : ∀ j, j < a.length → gK a j = gK b j) : a = b :=
  List.ext_getElem hl fun j h1 h2 => by rw [← gK_get h1, ← gK_get h2, hk j h1]

set_option maxRecDepth 100000 in
set_option maxHeartbeats 4000000 in
theorem equalFunc72 (ks ls : List T) (hf : ∀ i, i < ks.length → ∀ (s : T) (v u : Value) (w : World), TreeAt w v (gK ks i) → TreeAt w u s → Calls Try.prog 127 #[v, u] w fun e w' => e = .returned (.bool (decide (gK ks i = s))) ∧ Below w.heap.size w w')
    (ao bo : Option Addr) (ca cb : Nat) (w : World) (ha : RowAt w ao ks) (hb : RowAt w bo ls) (hka : ks.length ≤ 9223372036854775807) (hkb : ls.length ≤ 9223372036854775807) :
    Calls Try.prog 148 #[.slice ao ks.length ca, .slice bo ls.length cb, .func (.func 127) #[] #[]] w fun e w' => e = .returned (.bool (decide (ks = ls))) ∧ Below w.heap.size w w' := by
  have HF := Lib.hid hf; have HA := Lib.hid ha; have HB := Lib.hid hb; clear hf ha hb
  by_cases hl : ks.length = ls.length
  · have hne : ((ks.length : Int) != (ls.length : Int)) = false := by simp [hl]
    have HL := Lib.hid hl
    clear hl
    go_enter Try.func148, Try.ntmps148
    go_wp2_with fail
    go_loopw [7, 8, 9, 17] (fun _ _ _ i wr => ∃ k : Nat, k ≤ ks.length ∧ i = .int .i64 k ∧ (∀ j, j < k → gK ks j = gK ls j) ∧ Below w.heap.size w wr) (fun _ _ _ i _ => ks.length - (intOf i).toNat)
    case atStart => exact ⟨0, by omega, rfl, fun j hj => by omega, Below.refl _ _⟩
    case round =>
      obtain ⟨k, hk, rfl, hno, hb⟩ := hrel
      have HNO := Lib.hid hno; clear hno
      by_cases hlt : k < ks.length
      · have hlti : (k : Int) < (ks.length : Int) := by omega
        have hlt2 : k < ls.length := by have := HL.out; omega
        have hlti2 : (k : Int) < (ls.length : Int) := by omega
        obtain ⟨b, off, ko, ksp, rfl, c1, c2, c3⟩ := (HA.out.below hb) k hlt
        obtain ⟨b2, off2, ko2, ksp2, rfl, d1, d2, d3⟩ := (HB.out.below hb) k hlt2
        have HC := Lib.hid c3; have HD := Lib.hid d3
        have S := ((St.start wr).box rfl #[.int .i64 (gK ks k).head, .slice ko (gK ks k).kids.length ((gK ks k).kids.length + ksp)] 38).box (b := wr.heap.size + 1) (by simp) #[.int .i64 (gK ls k).head, .slice ko2 (gK ls k).kids.length ((gK ls k).kids.length + ksp2)] 38
        have hlb2 : b2 < wr.heap.size := block_lt_of_cell d1
        have hlb1 : b < wr.heap.size := block_lt_of_cell c1
        clear c3 d3
        go_wp2_with fail
        refine St.gen S (z := wr.heap.size) (by simp; omega) ?_
        intro w1 z1 S1
        refine (S1.quiet (HF.out k hlt (gK ls k) _ _ w1 (HC.out.kept S1.bel) (HD.out.kept S1.bel))).mono ?_
        rintro e w2 ⟨rfl, z2, S2⟩
        have hbq := Below.step hb S2.bel
        clear S S1 S2
        cases hq : decide (gK ks k = gK ls k) with
        | false =>
          have HQ := Lib.hid hq; clear hq
          go_wp2_with fail
          go_ret
          refine ⟨ret_bool ?_, hbq⟩
          have h := HQ.out
          simp only [decide_eq_false_iff_not] at h
          exact (decide_eq_false (fun e => h (by rw [e]))).symm
        | true =>
          have HQ := Lib.hid hq; clear hq
          go_wp2_with fail
          go_roundw
          case rel => exact ⟨k + 1, by omega, by go_num, fun j hj => (by rcases Nat.lt_succ_iff_lt_or_eq.1 hj with h | rfl; exact HNO.out j h; exact of_decide_eq_true HQ.out), hbq⟩
          case measure => simp [intOf] <;> omega
      · obtain rfl : k = ks.length := by omega
        go_wp2_with fail
        go_ret
        exact ⟨ret_bool (decide_eq_true (list_ext_gK HL.out HNO.out)).symm, hb⟩
  · have hne : ((ks.length : Int) != (ls.length : Int)) = true := by simp; omega
    have E0 := Lib.hid (show decide (ks = ls) = false from decide_eq_false (fun e => hl (by rw [e])))
    clear hl
    go_enter Try.func148, Try.ntmps148
    go_wp2_with fail
    go_ret
    exact ⟨ret_bool E0.out.symm, Below.refl _ _⟩

set_option maxRecDepth 100000 in
set_option maxHeartbeats 4000000 in
theorem same68 (t : T) : ∀ (s : T) (v u : Value) (w : World), TreeAt w v t → TreeAt w u s →
    Calls Try.prog 127 #[v, u] w fun e w' => e = .returned (.bool (decide (t = s))) ∧ Below w.heap.size w w' := by
  induction t using T.ind with
  | h t ih =>
  intro s v u w ht hs
  obtain ⟨ao, sp, rfl, hr, hml⟩ := ht.open
  obtain ⟨ao2, sp2, rfl, hr2, hml2⟩ := hs.open
  have hml : t.kids.length ≤ 9223372036854775807 := hml
  have hml2 : s.kids.length ≤ 9223372036854775807 := hml2
  have HR := Lib.hid hr; have HR2 := Lib.hid hr2; have IH := Lib.hid ih
  clear ht hr hs hr2 ih
  have S := ((St.start w).box rfl #[.int .i64 t.head, .slice ao t.kids.length (t.kids.length + sp)] 38).box (b := w.heap.size + 1) (by simp) #[.int .i64 s.head, .slice ao2 s.kids.length (s.kids.length + sp2)] 38
  by_cases hh : t.head = s.head
  · have hne : (t.head == s.head) = true := by simp [hh]
    have HH := Lib.hid hh
    clear hh
    go_enter Try.func127, Try.ntmps127
    go_wp2_with fail
    refine St.gen S (z := w.heap.size) (by simp; omega) ?_
    intro w1 z1 S1
    refine (S1.quiet (equalFunc72 t.kids s.kids (fun i hi => IH.out i hi) ao ao2 _ _ w1 (HR.out.below S1.bel) (HR2.out.below S1.bel) hml hml2)).mono ?_
    rintro e w2 ⟨rfl, z2, S2⟩
    go_wp2_with fail
    go_ret
    refine ⟨ret_bool ?_, S2.bel⟩
    have hiff : t.kids = s.kids ↔ t = s := ⟨fun h => by cases t; cases s; have := HH.out; simp only [T.head, T.kids] at this h; rw [this, h], fun h => by rw [h]⟩
    exact decide_eq_decide.2 hiff
  · have hne : (t.head == s.head) = false := by simp [hh]
    have E0 := Lib.hid (show decide (t = s) = false from decide_eq_false (fun e => hh (by rw [e])))
    clear hh
    go_enter Try.func127, Try.ntmps127
    go_wp2_with fail
    go_ret
    exact ⟨ret_bool E0.out.symm, S.bel⟩
end Go.Proofs.Ytlhnfdjidjgfgaa
namespace Go.Proofs.Ytlhnfdjidjgfgaa
open Go.RowKit Go.Shelf
set_option linter.unusedVariables false
set_option maxHeartbeats 400000

theorem TreeP.row {p : Nat → Prop} {w : World} {h0 : Int} {ao : Option Addr} {n c : Nat} {x : T} (h : TreeP p w (.agg #[.int .i64 h0, .slice ao n c]) x) : RowP p w ao x.kids ∧ x.kids.length ≤ maxLen := by
  obtain ⟨ao', sp', e, h1, h2⟩ := h.open
  simp at e
  rw [e.2.1]; exact ⟨h1, h2⟩
def DownPost (p : Nat → Prop) (r : T × Int) (w : World) (e : Ending) (w' : World) : Prop := ∃ k sp, e = .returned (.tuple #[.agg #[.int .i64 r.1.head, .slice k r.1.kids.length (r.1.kids.length + sp)], .int .i64 r.2]) ∧ TreeP p w (.agg #[.int .i64 r.1.head, .slice k r.1.kids.length (r.1.kids.length + sp)]) r.1 ∧ Below w.heap.size w w'

end Go.Proofs.Ytlhnfdjidjgfgaa
namespace Go.Proofs.Ytlhnfdjidjgfgaa
open Go.RowKit Go.Shelf
set_option linter.unusedVariables false
set_option maxHeartbeats 400000

def MatchPost (p t : T) (bs : Nat → T) (pp : Nat → Prop) (B g n : Nat) (w0 w : World) (l : List Fct) (e : Ending) (w' : World) : Prop :=
  ∃ bs', e = .returned (.bool (p.fit t bs).isSome) ∧ Hid (∀ r, p.fit t bs = some r → r = bs') ∧ w.heap.size ≤ w'.heap.size ∧ St w0 w' (.rset (fun b => pp b ∨ w.heap.size ≤ b) B g n bs' :: l)

set_option maxRecDepth 100000 in
set_option maxHeartbeats 8000000 in
theorem match62 (n g B : Nat) (p : T) : ∀ (t : T) (bs : Nat → T) (pp qp qt : Nat → Prop) (v u : Value) (w0 w : World) (l : List Fct), St w0 w (.rset pp B g n bs :: l) → offAll g l → w0.heap.size ≤ g → n ≤ 1000000 → ¬ pp g → TreeP qp w v p → TreeP qt w u t → ¬ qp g → ¬ qt g → p.most ≤ n → t.size ≤ 100000000 →
    Calls Try.prog 136 #[v, u, .slice (some ⟨g, 0, none⟩) n n] w (MatchPost p t bs pp B g n w0 w l) := by
  induction p using T.ind with
  | h p ih =>
  intro t bs pp qp qt v u w0 w l S hoff h0 hn hpg htp htt hqp hqt hm hsz
  obtain ⟨po, psp, rfl, hrp, hmp⟩ := htp.open
  obtain ⟨tq, tsp, rfl, hrt, hmt⟩ := htt.open
  have hmp : p.kids.length ≤ 9223372036854775807 := hmp
  have hmt : t.kids.length ≤ 9223372036854775807 := hmt
  have hgl := (S.rset 0).lt
  have S1 := (((S.cons (.treeP qp _ p) htp).cons (.treeP qt _ t) htt).boxH (b := w.heap.size) rfl #[.int .i64 p.head, .slice po p.kids.length (p.kids.length + psp)] 38).boxH (b := w.heap.size + 1) (by simp) #[.int .i64 t.head, .slice tq t.kids.length (t.kids.length + tsp)] 38
  have hm0 := head_most p
  have HOFF := Lib.hid hoff; have HPG := Lib.hid hpg; have HQP := Lib.hid hqp; have HQT := Lib.hid hqt; have IH := Lib.hid ih
  have HM := Lib.hid hm
  have HFE := Lib.hid (T.fit_eq p t bs)
  clear hoff hpg hqp hqt ih hrp hrt htp htt S
  by_cases hneg : p.head < 0
  · obtain ⟨m, hmm⟩ := Int.eq_ofNat_of_zero_le (show 0 ≤ -p.head - 1 by omega)
    have hm1 : (-p.head - 1).toNat = m := by omega
    have hmn : m < n := by have := HM.out; omega
    have hmni : (m : Int) < (n : Int) := by omega
    have HFN := Lib.hid (show p.fit t bs = if (bs m).head = 0 then some (setT bs m t) else if bs m = t then some bs else none by rw [HFE.out, if_pos hneg, hm1])
    have hm2 : -p.head - 1 = (m : Int) := hmm
    have hplo : -1000001 ≤ p.head := by omega
    clear hmm hm1
    obtain ⟨ko, ksp, c1, c2, f1, f2, c3⟩ := (S1.rset 4).get hmn
    by_cases hz : (bs m).head = 0
    · have hzb : ((bs m).head == 0) = true := by simpa using hz
      have HF := Lib.hid (show p.fit t bs = some (setT bs m t) by rw [HFN.out, if_pos hz])
      rw [hz] at c1
      clear hz
      obtain ⟨⟨x0, _⟩, x1, _⟩ := S1.two 0
      obtain ⟨⟨y0, _⟩, y1, _⟩ := S1.two 1
      have hlx := S1.lt 0
      go_enter Try.func136, Try.ntmps136
      go_wp2_with fail
      refine St.gen S1 (z := w.heap.size + 2) (by simp) ?_
      intro w1 z1 S2
      clear S1 x0 x1 y0 y1 hlx c1 c2 f1 f2 c3
      refine (copy50 t _ w1 (S2.treeP 2).at hsz).mono ?_
      rintro e w2 ⟨u, rfl, hu, hb2⟩
      obtain ⟨uk, usp, rfl⟩ := hu.at.form
      have S3 := S2.step hb2
      have z2 := hb2.size
      obtain ⟨ko, ksp, c1, c2, f1, f2, c3⟩ := (S3.rset 4).get hmn
      have hgl2 := (S3.rset 4).lt
      have S4 := (S3.sub (l' := .rset pp B g n bs :: l) (fun f hf => by simp only [List.mem_cons] at hf ⊢; rcases hf with h | h <;> simp [h])).rput (p' := fun b => pp b ∨ w.heap.size ≤ b) hmn (hu.mono (fun b h _ => .inr (by omega))) (fun b h => .inl h) (fun h => by rcases h with h | h; exact HPG.out h; omega) h0 HOFF.out
      have z4 : w.heap.size ≤ ((w2.setCell ⟨g, m * 2, none⟩ (.int .i64 t.head)).setCell ⟨g, m * 2 + 1, none⟩ (.slice uk t.kids.length (t.kids.length + usp))).heap.size := by simp; omega
      clear S2 S3 hu hb2 c3
      go_wp2_with fail
      go_ret
      exact ⟨_, by rw [HF.out]; rfl, (fun r hr => by rw [HF.out] at hr; exact (Option.some.inj hr).symm), z4, S4⟩
    · have hzb : ((bs m).head == 0) = false := by simpa using hz
      have HFN := Lib.hid (show p.fit t bs = if bs m = t then some bs else none by rw [HFN.out, if_neg hz])
      clear hz
      obtain ⟨⟨x0, _⟩, x1, _⟩ := S1.two 0
      obtain ⟨⟨y0, _⟩, y1, _⟩ := S1.two 1
      have hlx := S1.lt 0
      go_enter Try.func136, Try.ntmps136
      go_upto_region 6 with fail
      refine S1.genC (z := w.heap.size + 2) (by simp) ?_
      intro w1 z1 S2
      clear S1 x0 x1 y0 y1 hlx c1 c2 f1 f2 c3
      obtain ⟨ko, ksp, c1, c2, f1, f2, c3⟩ := (S2.rset 4).get hmn
      obtain ⟨⟨x0, _⟩, x1, _⟩ := S2.two 0
      have hcA : ∀ d os, Calls Try.prog 127 #[.agg #[.int .i64 (bs m).head, .slice ko (bs m).kids.length ((bs m).kids.length + ksp)], .agg #[.int .i64 t.head, .slice tq t.kids.length (t.kids.length + tsp)]] (Go.Sort.grow (redrawn w1 d) os) fun e w'' => e = .returned (.bool (decide (bs m = t))) ∧ ∃ p : Regrown, w'' = Go.Sort.grow (redrawn w1 p.d) p.os := fun d os =>
        Calls.regrown_of (same68 (bs m) t _ _ _ (c3.at.kept (below_regrown w1 d os)) ((S2.treeP 2).at.kept (below_regrown w1 d os)))
      have CA := Lib.hid hcA
      have r0 := cell_regrown x0; have r1 := cell_regrown x1; have r2 := cell_regrown c1; have r3 := cell_regrown c2
      clear hcA x0 x1 c1 c2 f1 f2 c3
      refine wp_region_quiet_below (by kernel_rfl) (by kernel_rfl) ?_
      repeat (go_big_quiet_step (exact CA.out _ _))
      refine wpQuiet_nil ?_
      intro _ hw'
      obtain ⟨⟨dq, osq⟩, hw''⟩ := hw'
      subst hw''
      refine (S2.regrown dq osq).genX (z := w.heap.size + 2) (Nat.le_trans z1 (below_regrown w1 dq osq).size) ?_
      intro w2 z2 S3
      clear r0 r1 r2 r3 CA S2
      have S4 := (S3.sub (l' := .rset pp B g n bs :: l) (fun f hf => by simp only [List.mem_cons] at hf ⊢; rcases hf with h | h <;> simp [h])).rmono (p' := fun b => pp b ∨ w.heap.size ≤ b) (fun b h _ => .inl h)
      go_wp2_with fail
      go_ret
      by_cases he : bs m = t
      · exact ⟨bs, by rw [HFN.out, if_pos he, decide_eq_true he]; rfl, (fun r hr => by rw [HFN.out, if_pos he] at hr; exact (Option.some.inj hr).symm), by omega, S4⟩
      · exact ⟨bs, by rw [HFN.out, if_neg he, decide_eq_false he]; rfl, (fun r hr => by rw [HFN.out, if_neg he] at hr; cases hr), by omega, S4⟩
  · have HF := Lib.hid (show p.fit t bs = if p.head = t.head ∧ p.kids.length = t.kids.length then fitL p.kids t.kids bs else none by rw [HFE.out, if_neg hneg])
    have hng : ¬ p.head < 0 := hneg
    obtain ⟨⟨x0, _⟩, x1, _⟩ := S1.two 0
    obtain ⟨⟨y0, _⟩, y1, _⟩ := S1.two 1
    have hlx := S1.lt 0
    have SE := Lib.hid ((S1.sub (l' := .rset pp B g n bs :: l) (fun f hf => by simp only [List.mem_cons] at hf ⊢; rcases hf with h | h <;> simp [h])).rmono (p' := fun b => pp b ∨ w.heap.size ≤ b) (fun b h _ => .inl h))
    have hzE : w.heap.size ≤ ((w.alloc (.cells #[.int .i64 p.head, .slice po p.kids.length (p.kids.length + psp)] 38)).alloc (.cells #[.int .i64 t.head, .slice tq t.kids.length (t.kids.length + tsp)] 38)).heap.size := by simp; omega
    by_cases hh : p.head = t.head
    · have hhb : (p.head != t.head) = false := by simp [hh]
      by_cases hl : p.kids.length = t.kids.length
      · have hlb : ((p.kids.length : Int) != (t.kids.length : Int)) = false := by simp [hl]
        have HF := Lib.hid (show p.fit t bs = fitL p.kids t.kids bs by rw [HF.out, if_pos ⟨hh, hl⟩])
        have HL := Lib.hid hl
        clear hh hl
        go_enter Try.func136, Try.ntmps136
        go_wp2_with fail
        refine S1.genC (z := w.heap.size + 2) (by simp) ?_
        intro wB zB S2
        have SB := Lib.hid S2
        clear S1 S2 x0 x1 y0 y1 hlx SE hzE
        go_loopw [8, 9, 51] (fun _ _ i wr => ∃ (q : Nat) (bs' : Nat → T), q ≤ p.kids.length ∧ i = .int .i64 q ∧ Hid (fitL (p.kids.drop q) (t.kids.drop q) bs' = fitL p.kids t.kids bs) ∧ w.heap.size + 2 ≤ wr.heap.size ∧
          St w0 wr (.box (w.heap.size + 1) #[.int .i64 t.head, .slice tq t.kids.length (t.kids.length + tsp)] 38 :: .box w.heap.size #[.int .i64 p.head, .slice po p.kids.length (p.kids.length + psp)] 38 :: .treeP qt (.agg #[.int .i64 t.head, .slice tq t.kids.length (t.kids.length + tsp)]) t :: .treeP qp (.agg #[.int .i64 p.head, .slice po p.kids.length (p.kids.length + psp)]) p :: .rset (fun b => pp b ∨ w.heap.size ≤ b) B g n bs' :: l)) (fun _ _ i _ => p.kids.length - (intOf i).toNat)
        case atStart => exact ⟨0, bs, by omega, rfl, rfl, zB, ((SB.out.pull 4).rmono (p' := fun b => pp b ∨ w.heap.size ≤ b) (fun b h _ => .inl h)).back 4⟩
        case round =>
          obtain ⟨q, bs', hq, rfl, HI, zr, S⟩ := hrel
          by_cases hlt : q < p.kids.length
          · have hlti : (q : Int) < (p.kids.length : Int) := by omega
            have hlt2 : q < t.kids.length := by have := HL.out; omega
            have hlti2 : (q : Int) < (t.kids.length : Int) := by omega
            obtain ⟨b, off, ko, ksp, rfl, hb1, c1, c2, c3⟩ := (S.treeP 3).row.1 q hlt
            have SX := (S.cons (.treeP qp _ (gK p.kids q)) c3).boxH rfl #[.int .i64 (gK p.kids q).head, .slice ko (gK p.kids q).kids.length ((gK p.kids q).kids.length + ksp)] 38
            clear c3
            go_upto_region 12 with fail
            refine SX.genC (z := wr.heap.size + 1) (by simp) ?_
            intro w1 z1 S2
            clear S SX c1 c2 hb1
            obtain ⟨b2, off2, ko2, ksp2, rfl, hb2, d1, d2, d3⟩ := (S2.treeP 4).row.1 q hlt2
            obtain ⟨⟨x0, _⟩, x1, _⟩ := S2.two 0
            obtain ⟨⟨y0, _⟩, y1, _⟩ := S2.two 2
            have hlx := S2.lt 0
            have hg1 := (S2.rset 6).lt.2
            have HD := Lib.hid (d3.kept (w' := w1.drew) (Below.refl _ _).drew)
            have HKM := Lib.hid (show (gK p.kids q).most ≤ (n : Int) by have := kid_most hlt; have := HM.out; omega)
            have HKS := Lib.hid (show (gK t.kids q).size ≤ 100000000 by have := kid_size hlt2; have := t.size_eq; omega)
            have SD := Lib.hid (S2.drew.pull 6)
            have hpg2 : ¬ (pp g ∨ w.heap.size ≤ g) := fun h => by rcases h with h | h; exact HPG.out h; omega
            have HPG2 := Lib.hid hpg2
            clear d3 hpg2
            go_still_tail 7, (by kernel_rfl)
            change wpList _ _ _ _ _ w1.drew
            go_wp2_with fail
            refine (IH.out q hlt (gK t.kids q) bs' _ qp qt _ _ w0 w1.drew _ SD.out ⟨show ¬ g = wr.heap.size by omega, HQP.out, show ¬ g = w.heap.size + 1 by omega, show ¬ g = w.heap.size by omega, HQT.out, HQP.out, HOFF.out⟩ h0 hn HPG2.out (SD.out.treeP 2) HD.out HQP.out HQT.out HKM.out HKS.out).mono ?_
            rintro e w3 ⟨bs2, rfl, HB2, z3, S3⟩
            have HST := Lib.hid (fitL_step (bs := bs') hlt hlt2)
            have z3' : w1.heap.size ≤ w3.heap.size := z3
            have S4 := Lib.hid (S3.rmono (p' := fun b => pp b ∨ w.heap.size ≤ b) (fun b h _ => by
              rcases h with h | h
              · exact h
              · have h' : w1.heap.size ≤ b := h
                right; omega))
            clear x0 x1 y0 y1 hlx d1 d2 hb2 S2 SD z3 S3
            cases hfk : (gK p.kids q).fit (gK t.kids q) bs' with
            | none =>
              have HFN := Lib.hid (show p.fit t bs = none by rw [HF.out, ← HI.out, HST.out, hfk])
              clear hfk
              go_wp2_with fail
              go_ret
              exact ⟨bs2, by rw [HFN.out]; rfl, (fun r hr => by rw [HFN.out] at hr; cases hr), by omega, S4.out.sub (fun f hf => by simp only [List.mem_cons] at hf; rcases hf with h | h <;> simp [h, fdel])⟩
            | some b2' =>
              obtain rfl := HB2.out b2' hfk
              have HN := Lib.hid (show fitL (p.kids.drop (q + 1)) (t.kids.drop (q + 1)) b2' = fitL p.kids t.kids bs by rw [← HI.out, HST.out, hfk])
              clear hfk
              have S5 := Lib.hid (S4.out.back 6)
              go_wp2_with fail
              go_roundw
              case rel => exact ⟨q + 1, b2', by omega, by go_num, HN.out, by omega, S5.out.tail.tail⟩
              case measure => simp [intOf] <;> omega
          · obtain rfl : q = p.kids.length := by omega
            have HFS := Lib.hid (show p.fit t bs = some bs' by rw [HF.out, ← HI.out, List.drop_length, fitL])
            go_wp2_with fail
            go_ret
            exact ⟨bs', by rw [HFS.out]; rfl, (fun r hr => by rw [HFS.out] at hr; exact (Option.some.inj hr).symm), by omega, S.tail.tail.tail.tail⟩
      · have hlb : ((p.kids.length : Int) != (t.kids.length : Int)) = true := by simp; omega
        have HF := Lib.hid (show p.fit t bs = none by rw [HF.out, if_neg (fun h => hl h.2)])
        clear hh hl S1
        go_enter Try.func136, Try.ntmps136
        go_wp2_with fail
        go_ret
        exact ⟨bs, by rw [HF.out]; rfl, (fun r hr => by rw [HF.out] at hr; cases hr), hzE, SE.out⟩
    · have hhb : (p.head != t.head) = true := by simp [hh]
      have HF := Lib.hid (show p.fit t bs = none by rw [HF.out, if_neg (fun h => hh h.1)])
      clear hh S1
      go_enter Try.func136, Try.ntmps136
      go_wp2_with fail
      go_ret
      exact ⟨bs, by rw [HF.out]; rfl, (fun r hr => by rw [HF.out] at hr; cases hr), hzE, SE.out⟩
end Go.Proofs.Ytlhnfdjidjgfgaa
namespace Go.Proofs.Ytlhnfdjidjgfgaa
open Go.RowKit Go.Shelf
set_option linter.unusedVariables false
set_option maxHeartbeats 400000

/-- what stands for the variables of a pattern -/
noncomputable def fitF (p t : T) : Option (List T) := (p.fit t (fun _ => zeroT)).map (listT p.most.toNat)
noncomputable def fitLst (p t : T) : List T := (fitF p t).getD []
theorem fitF_isSome (p t : T) : (fitF p t).isSome = (p.fit t (fun _ => zeroT)).isSome := by simp [fitF]
def MadeRow (w w' : World) (ro : Option Addr) (ks : List T) : Prop := RowP (fun b => w.heap.size ≤ b ∧ b < w'.heap.size) w' ro ks
def Match55Post (p t : T) (w : World) (e : Ending) (w' : World) : Prop :=
  ∃ ro rc, e = .returned (.tuple #[.slice ro (fitLst p t).length rc, .bool (fitF p t).isSome]) ∧ MadeRow w w' ro (fitLst p t) ∧ Below w.heap.size w w'

set_option maxRecDepth 100000 in
set_option maxHeartbeats 4000000 in
theorem match55 (p t : T) (v u : Value) (w : World) (hp : TreeAt w v p) (ht : TreeAt w u t) (hpok : ∀ x ∈ p.pre, okN x) (hps : p.size ≤ 1000000) (hpd : p.deep ≤ 100000) (hts : t.size ≤ 100000000) :
    Calls Try.prog 90 #[v, u] w (Match55Post p t w) := by
  obtain ⟨po, psp, rfl⟩ := hp.form
  obtain ⟨tq, tsp, rfl⟩ := ht.form
  have HP := Lib.hid hp; have HT := Lib.hid ht
  have HPOK := Lib.hid hpok
  have hm8 := most_le p hpok
  have hm0 := p.most_nonneg
  clear hp ht hpok
  have S0 := ((St.start w).box rfl #[.int .i64 p.head, .slice po p.kids.length (p.kids.length + psp)] 38).box (b := w.heap.size + 1) (by simp) #[.int .i64 t.head, .slice tq t.kids.length (t.kids.length + tsp)] 38
  obtain ⟨⟨x0, _⟩, x1, _⟩ := S0.two 0
  have hlx := S0.lt 0
  have S1 := S0.box (b := w.heap.size + 1 + 1) (by simp) #[.int .i64 p.head, .slice po p.kids.length (p.kids.length + psp)] 38
  obtain ⟨i24, gi, gz0, gz1, gz2⟩ := info_parts info24
  go_enter Try.func90, Try.ntmps90
  go_wp2_with fail
  refine St.gen S1 (z := w.heap.size + 3) (by simp) ?_
  intro w1 z1 S2
  clear S0 S1 x0 x1 hlx
  have hrow : RowAt w1 (some ⟨w.heap.size + 1 + 1, 0, none⟩) [p] := fun i hi => by
    obtain rfl : i = 0 := by simp at hi; omega
    obtain ⟨⟨y0, _⟩, y1, _⟩ := S2.two 2
    exact ⟨w.heap.size + 1 + 1, 0, po, psp, rfl, by simpa [gK] using y0, by simpa [gK] using y1, by simpa [gK] using HP.out.kept S2.bel⟩
  refine (S2.quiet (max47 [p] (some ⟨w.heap.size + 1 + 1, 0, none⟩) 1 w1 hrow (by simp) (fun i hi => by
    obtain rfl : i = 0 := by simp at hi; omega
    simp only [gK, List.getD_cons_zero]
    exact ⟨hps, hpd, HPOK.out⟩))).mono ?_
  rintro e w2 ⟨rfl, z2, S3⟩
  obtain ⟨N, hN⟩ : ∃ N : Nat, (N : Int) = mostL [p] := ⟨p.most.toNat, by simp only [mostL]; omega⟩
  have hNm : (N : Int) = p.most := by rw [hN]; simp only [mostL]; omega
  have hN8 : N ≤ 8 := by omega
  rw [← hN]
  have HNM := Lib.hid (show p.most.toNat = N by omega)
  have HML := Lib.hid (show p.most ≤ (N : Int) by omega)
  clear hN hNm hrow S2
  go_wp2_with (at_make; refine wpList_make_full _ rfl (.tmp 9) (.tmp 9) 33 rfl w2.heap.size 38 i24 (.agg #[.int .i64 0, .slice none 0 0]) 2 Try.underlying33 gi gz0 gz1 .i64 .i64 _ _ N rfl rfl rfl rfl ?m1 ?m2 ?m3 ?_)
  case m1 => rw [gz2]; omega
  case m2 => unfold maxLen; omega
  case m3 => exact Nat.le_refl _
  intro w3 hown hgrow
  have hb3 : Below w2.heap.size w2 w3 := (Below.refl _ _).grown hgrow (Nat.le_refl _) (fun q hq => by cases hq)
  have z3 := hb3.size
  have S4 := (S3.step hb3).cons (.rset (fun b => False) w2.heap.size w2.heap.size N (fun _ => zeroT)) (RowSet.made (w := w3) hown _)
  have hgl := (S4.rset 0).lt.2
  obtain ⟨⟨x0, _⟩, x1, _⟩ := S4.two 1
  obtain ⟨⟨y0, _⟩, y1, _⟩ := S4.two 2
  have hlx := S4.lt 1
  clear hown hgrow S3
  go_wp2_with fail
  refine (match62 N w2.heap.size w2.heap.size p t (fun _ => zeroT) (fun b => False) (fun b => b < w.heap.size) (fun b => b < w.heap.size) _ _ w w3 _ S4 ⟨show ¬ w2.heap.size = w.heap.size by omega, show ¬ w2.heap.size = w.heap.size + 1 by omega, show ¬ w2.heap.size = w.heap.size + 1 + 1 by omega, trivial⟩ (by omega) (by omega) (fun h => h) (HP.out.foot.kept S4.bel) (HT.out.foot.kept S4.bel) (by show ¬ w2.heap.size < w.heap.size; omega) (by show ¬ w2.heap.size < w.heap.size; omega) HML.out hts).mono ?_
  rintro e w4 ⟨bs', rfl, HB, z4, S5⟩
  have hrow4 := (S5.rset 0).row
  have HROW := Lib.hid hrow4
  clear x0 x1 y0 y1 hlx S4 hrow4
  cases hf : p.fit t (fun _ => zeroT) with
  | none =>
    have HF := Lib.hid (show fitF p t = none by rw [fitF, hf]; rfl)
    clear hf
    go_wp2_with fail
    go_ret2
    exact ⟨none, 0, by rw [fitLst, HF.out]; rfl, (fun i hi => by rw [fitLst, HF.out] at hi; simp at hi), S5.bel⟩
  | some r =>
    obtain rfl := HB.out r hf
    have HF := Lib.hid (show fitF p t = some (listT N r) by rw [fitF, hf, HNM.out]; rfl)
    clear hf
    go_wp2_with fail
    go_ret2
    refine ⟨some ⟨w2.heap.size, 0, none⟩, N, by rw [fitLst, HF.out]; simp [listT_length], ?_, S5.bel⟩
    rw [fitLst, HF.out]
    exact HROW.out.mono (fun b h hlt => ⟨by rcases h with ⟨h | h, _⟩ | h; exact h.elim; omega; omega, hlt⟩)

noncomputable def fitD (p t : T) : List T × Bool × Int × Int := if (treeF p).1 ≠ 0 then ([], false, treeF p) else if (treeF t).1 ≠ 0 then ([], false, (treeF t).1, -1) else (fitLst p t, (fitF p t).isSome, 0, 0)
def Do34Post (p t : T) (w : World) (e : Ending) (w' : World) : Prop :=
  ∃ ro rc, e = .returned (.tuple #[.slice ro (fitD p t).1.length rc, .bool (fitD p t).2.1, .agg #[.int .i64 (fitD p t).2.2.1, .int .i64 (fitD p t).2.2.2]]) ∧ MadeRow w w' ro (fitD p t).1 ∧ Below w.heap.size w w'

end Go.Proofs.Ytlhnfdjidjgfgaa
namespace Go.Proofs.Ytlhnfdjidjgfgaa
open Go.RowKit Go.Shelf
set_option linter.unusedVariables false
set_option maxHeartbeats 400000

theorem St.fitted {P : Program} {n : Nat} {a : Array Value} {w0 w : World} {l : List Fct} (S : St w0 w l) {p t : T} (h : Calls P n a w (Do34Post p t w)) :
    Calls P n a w fun e w' => ∃ L ok c d ro rc, e = .returned (.tuple #[.slice ro L.length rc, .bool ok, .agg #[.int .i64 c, .int .i64 d]]) ∧ Hid (fitD p t = (L, ok, c, d)) ∧ w.heap.size ≤ w'.heap.size ∧
      St w0 w' (fsnoc l (.row w.heap.size w'.heap.size ro L)) :=
  h.mono fun e w' ⟨ro, rc, h1, h2, h3⟩ => ⟨(fitD p t).1, (fitD p t).2.1, (fitD p t).2.2.1, (fitD p t).2.2.2, ro, rc, h1, rfl, h3.size, (S.step h3).add (.row _ _ ro _) h2⟩
theorem St.row {w0 w : World} {l : List Fct} (S : St w0 w l) (i : Nat) {lo hi : Nat} {ao : Option Addr} {ks : List T} (h : Fct.at l i = Fct.row lo hi ao ks := by rfl) : RowP (fun b => lo ≤ b ∧ b < hi) w ao ks := by
  have := S.2 i
  rw [h] at this; exact this
theorem RowP.made {w : World} {g N : Nat} (h : w.heap[g]? = some (.cells (madeCells (Value.agg #[.int .i64 0, .slice none 0 0]).cells (N * 2)) 38 (0, 0))) (p : Nat → Prop) (hp : p g) : RowP p w (some ⟨g, 0, none⟩) (listT N (fun _ => zeroT)) := fun i hi => by
  rw [listT_length] at hi
  have e0 : (i0 : Nat) → i0 < N * 2 → (madeCells (Value.agg #[.int .i64 0, .slice none 0 0]).cells (N * 2))[i0]? = some (#[Value.int .i64 0, .slice none 0 0][i0 % 2]!) := by
    intro i0 hi0
    have hz : (Value.agg #[.int .i64 0, .slice none 0 0]).cells = #[Value.int .i64 0, .slice none 0 0] := by rfl
    rw [hz]
    simp [madeCells, hi0]
  rw [listT_gK hi]
  refine ⟨g, 0, none, 0, rfl, hp, ?_, ?_, TreeP.zero _ _⟩
  · simp only [World.cell?, h, Option.isSome_none]
    have := e0 (i * 2) (by omega)
    rw [Nat.mul_mod_left] at this
    simp only [Nat.zero_add]
    rw [this]; rfl
  · simp only [World.cell?, h, Option.isSome_none]
    have := e0 (i * 2 + 1) (by omega)
    rw [show (i * 2 + 1) % 2 = 1 by omega] at this
    simp only [Nat.zero_add]
    rw [this]; rfl
theorem make25 (N : Nat) (hN : N ≤ 1000) (w : World) : (Instr.makeSlice 33 (.int .i64 (N : Int)) (.int .i64 (N : Int))).run Try.prog w = .ok (.slice (some ⟨w.heap.size, 0, none⟩) N N) (w.alloc (.cells (madeCells (Value.agg #[.int .i64 0, .slice none 0 0]).cells (N * 2)) 38)) := by
  obtain ⟨i24, gi, gz0, gz1, gz2⟩ := info_parts info24
  have h := run_makeSlice (P := Try.prog) w 33 38 i24 (.agg #[.int .i64 0, .slice none 0 0]) Try.underlying33 gi gz0 .i64 .i64 (N : Int) (N : Int) (by omega) (Int.le_refl _) (by rw [gz1]; simp; omega) (by rw [gz2]; omega) (by omega)
  rw [gz1] at h
  simpa using h

theorem fitD_code (p t : T) : (fitD p t).2.2 = if (treeF p).1 ≠ 0 then treeF p else if (treeF t).1 ≠ 0 then ((treeF t).1, -1) else (0, 0) := by
  unfold fitD
  split
  · rfl
  · split <;> rfl
theorem fitD_bad {p t : T} {L : List T} {ok : Bool} {c d : Int} (h : fitD p t = (L, ok, c, d)) (hc : c ≠ 0) : L = [] ∧ ok = false := by
  unfold fitD at h
  split at h
  · simp at h; simp [h]
  · split at h
    · simp at h; simp [h]
    · simp at h; omega
theorem fitD_ok {p t : T} {L : List T} {ok : Bool} {d : Int} (h : fitD p t = (L, ok, 0, d)) : (treeF p).1 = 0 ∧ (treeF t).1 = 0 ∧ d = 0 ∧ L = fitLst p t ∧ ok = (fitF p t).isSome := by
  unfold fitD at h
  split at h
  · rename_i hp
    have := congrArg (fun x => x.2.2.1) h; simp at this; exact absurd this hp
  · rename_i hp
    split at h
    · rename_i ht
      have := congrArg (fun x => x.2.2.1) h; simp at this; exact absurd this ht
    · rename_i ht
      simp at h
      exact ⟨by simpa using hp, by simpa using ht, h.2.2.symm, h.1.symm, h.2.1.symm⟩


end Go.Proofs.Ytlhnfdjidjgfgaa
