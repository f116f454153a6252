/-
  Walks: (*unify.solver).full.
-/
import Derived.Test.YtlhnfdjidjgfgaaProg
import Derived.Test.YtlhnfdjidjgfgaaUx5
namespace Go.Proofs.Ytlhnfdjidjgfgaa
open Go.RowKit Go.Shelf Go.Maps
set_option linter.unusedVariables false
set_option maxHeartbeats 400000

/-- does a tree fit behind so many nodes, so deep? -/
def fitN (n d : Nat) (R : T) : Prop := n + R.size ≤ 40 ∧ d + R.deep ≤ 13
structure FullR (N : Nat) (p : Nat → Prop) (b bs bn : Nat) (M : PM) (R0 : T) (d n : Nat) (w0 w : World) (ok : Bool) (k : Option Addr) (sp : Nat) (R : T) (m : Nat) (w' : World) : Prop where
  yes : ok = true → R = R0 ∧ m = n + R.size ∧ fitN n d R
  no : ok = false → R = zeroT ∧ ¬ fitN n d R0
  tree : TreeP (fun c => w.heap.size ≤ c) w' (.agg #[.int .i64 R.head, .slice k R.kids.length (R.kids.length + sp)]) R
  cell : w'.heap[bn]? = some (.cells #[.int .i64 (m : Nat)] 3 (0, 0))
  same : ∀ c, c < w.heap.size → c ≠ bn → w'.heap[c]? = w.heap[c]?
  size : w.heap.size ≤ w'.heap.size
  bel : Below w0.heap.size w0 w'
def FullP (N : Nat) (p : Nat → Prop) (b bs bn : Nat) (M : PM) (R0 : T) (d n : Nat) (w0 w : World) (e : Ending) (w' : World) : Prop :=
  ∃ (ok : Bool) (k : Option Addr) (sp : Nat) (R : T) (m : Nat), e = .returned (.tuple #[.agg #[.int .i64 R.head, .slice k R.kids.length (R.kids.length + sp)], .bool ok]) ∧ FullR N p b bs bn M R0 d n w0 w ok k sp R m w'
theorem St.fulled {n' : Nat} {a : Array Value} {w0 w : World} {l : List Fct} (S : St w0 w l) (i : Nat) {N : Nat} {p : Nat → Prop} {b bs bn : Nat} {M : PM} {R0 : T} {d n : Nat} (hi : Fct.at l i = .box bn #[.int .i64 (n : Nat)] 3) (hoff : offs bn i l) (h : Calls Try.prog n' a w (FullP N p b bs bn M R0 d n w0 w)) :
    Calls Try.prog n' a w fun e w' => ∃ (ok : Bool) (k : Option Addr) (sp : Nat) (R : T) (m : Nat), e = .returned (.tuple #[.agg #[.int .i64 R.head, .slice k R.kids.length (R.kids.length + sp)], .bool ok]) ∧ Hid ((ok = true → R = R0 ∧ m = n + R.size ∧ fitN n d R) ∧ (ok = false → R = zeroT ∧ ¬ fitN n d R0)) ∧ w.heap.size ≤ w'.heap.size ∧
      St w0 w' (fsnoc (fset l i (.box bn #[.int .i64 (m : Nat)] 3)) (.treeP (fun c => w.heap.size ≤ c ∧ c < w'.heap.size) (.agg #[.int .i64 R.head, .slice k R.kids.length (R.kids.length + sp)]) R)) :=
  h.mono fun e w' ⟨ok, k, sp, R, m, h1, h2⟩ => by
    have S2 : St w0 w' (fset l i (.box bn #[.int .i64 (m : Nat)] 3)) := by
      refine ⟨h2.bel, fun j => ?_⟩
      by_cases hj : j = i
      · subst hj
        rcases at_fset_same (.box bn #[.int .i64 (m : Nat)] 3) l j with h | h
        · rw [h]; exact h2.cell
        · rw [h]; trivial
      · rw [at_fset_other _ _ _ _ hj]
        exact (Fct.at l j).stable w w' (fun c hc hl => h2.same c hl (fun e => offs_at hoff j hj (e ▸ hc))) (S.2 j)
    exact ⟨ok, k, sp, R, m, h1, ⟨h2.yes, h2.no⟩, h2.size, S2.add (.treeP _ _ R) (h2.tree.mono fun b hb hl => ⟨hb, hl⟩)⟩
def FullOK (N : Nat) (p : Nat → Prop) (b bs bn : Nat) (M : PM) (σ : Nat → T) (w0 : World) (f : Nat) : Prop := ∀ (t : T) (v : Value) (w : World) (d n : Nat), 13 - d ≤ f → 1 ≤ d → d ≤ 13 → n ≤ 40 →
  St w0 w [.mapT N p b M, .box bs #[.map (some b)] 165, .box bn #[.int .i64 (n : Nat)] 3] → TreeP p w v t → VA N t → Calls Try.prog 135 #[.pointer (some ⟨bs, 0, none⟩), v, .int .i64 (d : Nat), .pointer (some ⟨bn, 0, none⟩)] w (FullP N p b bs bn M (t.inst σ) d n w0 w)
theorem inst_free {σ : Nat → T} {N : Nat} {X : T} (hv : VA N X) (h : X.head < 0 → σ (vI X) = vT (vI X)) : X.inst σ = .node X.head (X.kids.map (T.inst σ)) := by
  have key : ∀ l : List T, instL σ l = l.map (T.inst σ) := fun l => by
    induction l with
    | nil => rfl
    | cons x r ih => simp [instL, ih]
  by_cases hn : X.head < 0
  · rw [inst_var hn, h hn, ← (hv.leaf hn).1]
    rw [(hv.1 X (self_pre X) hn).1]
    conv => lhs; rw [← T.node_eta X, (hv.1 X (self_pre X) hn).1]
    rfl
  · rw [inst_node hn, key]
theorem fitN_kid {n d : Nat} {h : Int} {ks : List T} (hf : fitN n d (.node h ks)) {k : Nat} (hk : k < ks.length) : fitN (n + 1 + sizeL (ks.take k)) (d + 1) (gK ks k) := by
  have h1 := sizeL_take hk
  have h2 := sizeL_take_le ks (k + 1)
  have h3 : (gK ks k).deep ≤ deepL ks := by
    have h4 := deepL_take hk; have h5 := deepL_take_le ks (k + 1); omega
  unfold fitN at hf ⊢
  rw [T.size_eq, T.deep_eq] at hf
  simp only [T.kids] at hf
  omega
theorem deepL_all {m : Nat} : ∀ {ks : List T}, (∀ k, k < ks.length → (gK ks k).deep ≤ m) → deepL ks ≤ m
  | [], _ => by simp [deepL]
  | x :: r, h => by
    have h0 : x.deep ≤ m := h 0 (by simp)
    have h1 := deepL_all (ks := r) (fun k hk => h (k + 1) (by simpa using hk))
    simp only [deepL]; omega

set_option maxRecDepth 100000 in
set_option maxHeartbeats 8000000 in
theorem full_step (N : Nat) (p : Nat → Prop) (b bs bn : Nat) (M : PM) (σ : Nat → T) (w0 : World) (hb : w0.heap.size ≤ b) (hbs : w0.heap.size ≤ bs) (hbn : w0.heap.size ≤ bn) (hp : ∀ c, p c → c < w0.heap.size) (hN : N ≤ 1000) (hg : GoodM N M) (ha : Acyc M) (hσ : Sol M σ) (hfr : ∀ x, M x = none → σ x = vT x)
    (f : Nat) (ih : ∀ f', f' < f → FullOK N p b bs bn M σ w0 f') : FullOK N p b bs bn M σ w0 f := by
  intro t v w d n hf hd1 hd2 hn S0 ht hv
  obtain ⟨kt, ts, rfl⟩ := ht.at.form
  have HIH := Lib.hid ih; have HG := Lib.hid hg; have HA := Lib.hid ha; have HSG := Lib.hid hσ; have HFR := Lib.hid hfr; have HV := Lib.hid hv; have HP := Lib.hid hp; have HB := Lib.hid (show w0.heap.size ≤ b ∧ w0.heap.size ≤ bs ∧ w0.heap.size ≤ bn from ⟨hb, hbs, hbn⟩); have HN := Lib.hid hN; have HF := Lib.hid hf
  have HLT := Lib.hid (show b < w.heap.size ∧ bs < w.heap.size ∧ bn < w.heap.size from ⟨(S0.mapT 0).lt, S0.lt 1, S0.lt 2⟩)
  have HNE := Lib.hid (show b ≠ bs ∧ b ≠ bn ∧ bs ≠ bn from by
    obtain ⟨D, k, ⟨es, clock, hm, _⟩, _⟩ := S0.mapT 0
    refine ⟨fun e => ?_, fun e => ?_, fun e => ?_⟩
    · have h1 := S0.block 1; rw [← e, hm] at h1; cases h1
    · have h1 := S0.block 2; rw [← e, hm] at h1; cases h1
    · have h1 := S0.block 1; have h2 := S0.block 2; rw [e, h2] at h1; simp at h1)
  obtain ⟨bx, hbx⟩ : ∃ b, b = w.heap.size := ⟨_, rfl⟩
  have S1 := (S0.box hbx.symm #[.int .i64 t.head, .slice kt t.kids.length (t.kids.length + ts)] 38).box (b := bx + 1) (by simp [hbx]) #[.int .i64 0, .slice none 0 0] 38
  have HBB := Lib.hid (show Below w.heap.size w ((w.alloc (.cells #[.int .i64 t.head, .slice kt t.kids.length (t.kids.length + ts)] 38)).alloc (.cells #[.int .i64 0, .slice none 0 0] 38)) from ((Below.refl w.heap.size w).alloc (Nat.le_refl _) _).alloc (by simp) _)
  have S1 := (S1.add (.kept w bn) (fun c hc _ => HBB.out.block c hc)).add (.treeP p _ t) (ht.kept HBB.out)
  have hsz1 : ((w.alloc (.cells #[.int .i64 t.head, .slice kt t.kids.length (t.kids.length + ts)] 38)).alloc (.cells #[.int .i64 0, .slice none 0 0] 38)).heap.size = bx + 2 := by simp [hbx]
  have HBX := Lib.hid (show w.heap.size ≤ bx ∧ bx ≤ w.heap.size by omega)
  have HW0 := Lib.hid S0.size
  clear ih hg ha hσ hfr hv hp hb hbs hbn hN hf ht S0 HBB
  go_enter Try.func135, Try.ntmps135
  go_wp2_with fail
  rw [← hbx]
  refine S1.gen (z := bx + 2) (by omega) ?_
  intro w1 z1 S
  clear S1 hsz1 hbx
  refine (S.rooted (R := fun t' => IsRoot N M t t') (root154 N p b bs M t _ _ (S.mapT 0) (S.block 1) HG.out HA.out (S.treeP 6) HV.out HN.out (fun c hc => Nat.lt_of_lt_of_le (HP.out c hc) S.bel.size))).mono ?_
  rintro e w2 ⟨X, kx, xs, rfl, HRX, z2, S2⟩
  have hoffx : True := trivial
  have HVX := Lib.hid HRX.out.va
  have HEQ := Lib.hid (show t.inst σ = .node X.head (X.kids.map (T.inst σ)) from (HRX.out.same σ HSG.out).trans (inst_free HVX.out (fun h => HFR.out _ (HRX.out.free h))))
  have S3 := (S2.set2 3 rfl (.int .i64 X.head) (.slice kx X.kids.length (X.kids.length + xs)) (by have := HBX.out; have := HW0.out; omega) (by simp only [fsnoc, offs, offAll, Fct.box, Fct.treeP, Fct.kept, Fct.mapT, and_true]; have h1 := HBX.out; have h2 := HLT.out; have h3 := HW0.out; have h4 : ∀ c, p c → c < bx := fun c hc => (by have := HP.out c hc; omega); refine ⟨fun e => ?_, by omega, by omega, by omega, by omega, fun e => absurd (h4 _ e) (by omega), fun e => absurd (h4 _ e) (by omega)⟩; rcases e with e | e; omega; exact absurd (h4 _ e) (by omega))).pick [0, 1, 2, 3, 4, 5, 7]
  have z3 : bx + 2 ≤ ((w2.setCell ⟨bx, 0, none⟩ (.int .i64 X.head)).setCell ⟨bx, 1, none⟩ (.slice kx X.kids.length (X.kids.length + xs))).heap.size := by simp; omega
  obtain ⟨⟨x0, x0f⟩, x1, x1f⟩ := S2.two 3
  clear S
  go_upto_region 2 with (fail)
  refine S3.genC z3 ?_
  intro w3 z4 S
  have S : St w0 w3 [.mapT N p b M, .box bs #[.map (some b)] 165, .box bn #[.int .i64 (n : Nat)] 3, .box bx #[.int .i64 X.head, .slice kx X.kids.length (X.kids.length + xs)] 38, .box (bx + 1) #[.int .i64 0, .slice none 0 0] 38, .kept w bn, .treeP p (.agg #[.int .i64 X.head, .slice kx X.kids.length (X.kids.length + xs)]) X] := S
  clear S3 z3 x0 x0f x1 x1f S2 z2 z1
  have S4 := S.set1 2 rfl (.int .i64 ((n + 1 : Nat) : Int)) HB.out.2.2 (by simp only [offs, offAll, Fct.box, Fct.treeP, Fct.kept, Fct.mapT, and_true]; have h1 := HBX.out; have h2 := HLT.out; have h3 := HNE.out; refine ⟨fun e => ?_, fun e => h3.2.2 e.symm, by omega, by omega, by omega, fun e => by have := HP.out _ e; have := HB.out; omega⟩; rcases e with e | e; exact h3.2.1 e.symm; have := HP.out _ e; have := HB.out; omega)
  obtain ⟨c0, c1⟩ := S.one 2
  have hc2 := S.lt 2
  have z5 : bx + 2 ≤ (w3.setCell ⟨bn, 0, none⟩ (.int .i64 ((n + 1 : Nat) : Int))).heap.size := by simp; omega
  have S4' := Lib.hid S4
  clear S S4
  go_upto_region 3 with (fail)
  have e1 : ((n + 1 : Nat) : Int) = (n : Int) + 1 := by omega
  rw [← e1]
  refine S4'.out.genC z5 ?_
  intro w4 z6 S
  have S : St w0 w4 [.mapT N p b M, .box bs #[.map (some b)] 165, .box bn #[.int .i64 ((n + 1 : Nat) : Int)] 3, .box bx #[.int .i64 X.head, .slice kx X.kids.length (X.kids.length + xs)] 38, .box (bx + 1) #[.int .i64 0, .slice none 0 0] 38, .kept w bn, .treeP p (.agg #[.int .i64 X.head, .slice kx X.kids.length (X.kids.length + xs)]) X] := S
  clear S4' z5 z4 c0 c1 hc2 e1
  obtain ⟨m, hm⟩ : ∃ m, m = n + 1 := ⟨_, rfl⟩
  rw [← hm] at S
  have HM1 := Lib.hid hm
  clear hm
  obtain ⟨c0, c1⟩ := S.one 2
  by_cases hdd : 12 < d
  · have hddi : (12 : Int) < (d : Int) := by omega
    have HDD := Lib.hid hdd
    obtain ⟨⟨y0, y1⟩, y2, y3⟩ := S.two 4
    have hl1 := S.lt 4
    have S5 := Lib.hid S
    clear S
    clear hdd
    go_wp2_with fail
    have S6 := S5.out.set2 4 rfl (.int .i64 0) (.slice none 0 0) (by have := HBX.out; have := HW0.out; omega) (by simp only [offs, offAll, Fct.box, Fct.treeP, Fct.kept, Fct.mapT, and_true]; have h1 := HBX.out; have h2 := HLT.out; have h3 := HW0.out; refine ⟨fun e => ?_, by omega, by omega, by omega, by omega, fun e => by have := HP.out _ e; omega⟩; rcases e with e | e; omega; have := HP.out _ e; omega)
    refine ret_box2b (.int .i64 0) (.slice none 0 0) (.bool false) (bx + 1) 38 (S6.block 4) (fun w' q0 q1 => by simp [results, Try.results135, go_sem, q0, q1]) rfl ?_
    have hk := S6.kept 5
    have hs : w.heap.size ≤ w4.heap.size := by have := HBX.out; omega
    refine ⟨false, none, 0, zeroT, m, rfl, ⟨(fun h => by cases h), (fun _ => ⟨rfl, fun hf => ?_⟩), TreeP.leaf _ _ _, S6.block 2, (fun c h1 h2 => hk c h1 h2), by simp; exact hs, S6.bel⟩⟩
    unfold fitN at hf
    have h1 : 1 ≤ (t.inst σ).deep := by rw [T.deep_eq]; omega
    have h2 := T.size_pos (t.inst σ)
    have h3 := HM1.out
    have h4 := HDD.out
    omega
  · have hddi : ¬ (12 : Int) < (d : Int) := by omega
    have HDD := Lib.hid hdd
    clear hdd
    by_cases hmm : 40 < m
    · have hmmi : (40 : Int) < (m : Int) := by omega
      have HMM := Lib.hid hmm
      obtain ⟨⟨y0, y1⟩, y2, y3⟩ := S.two 4
      have hl1 := S.lt 4
      have S5 := Lib.hid S
      clear S
      clear hmm
      go_wp2_with fail
      have S6 := S5.out.set2 4 rfl (.int .i64 0) (.slice none 0 0) (by have := HBX.out; have := HW0.out; omega) (by simp only [offs, offAll, Fct.box, Fct.treeP, Fct.kept, Fct.mapT, and_true]; have h1 := HBX.out; have h2 := HLT.out; have h3 := HW0.out; refine ⟨fun e => ?_, by omega, by omega, by omega, by omega, fun e => by have := HP.out _ e; omega⟩; rcases e with e | e; omega; have := HP.out _ e; omega)
      refine ret_box2b (.int .i64 0) (.slice none 0 0) (.bool false) (bx + 1) 38 (S6.block 4) (fun w' q0 q1 => by simp [results, Try.results135, go_sem, q0, q1]) rfl ?_
      have hk := S6.kept 5
      have hs : w.heap.size ≤ w4.heap.size := by have := HBX.out; omega
      refine ⟨false, none, 0, zeroT, m, rfl, ⟨(fun h => by cases h), (fun _ => ⟨rfl, fun hf => ?_⟩), TreeP.leaf _ _ _, S6.block 2, (fun c h1 h2 => hk c h1 h2), by simp; exact hs, S6.bel⟩⟩
      unfold fitN at hf
      have h1 : 1 ≤ (t.inst σ).deep := by rw [T.deep_eq]; omega
      have h2 := T.size_pos (t.inst σ)
      have h3 := HM1.out
      have h4 := HMM.out
      omega
    · have hmmi : ¬ (40 : Int) < (m : Int) := by omega
      have HMM := Lib.hid hmm
      clear hmm
      obtain ⟨i38, gi, gz0, gz1, gz2⟩ := info_parts info44
      obtain ⟨KS, hKS⟩ : ∃ KS, KS = X.kids.map (T.inst σ) := ⟨_, rfl⟩
      have HKL := Lib.hid (show KS.length = X.kids.length by rw [hKS]; simp)
      have HKG := Lib.hid (show ∀ k, k < X.kids.length → gK KS k = (gK X.kids k).inst σ from fun k hk => by rw [hKS]; exact gK_map hk)
      have HEK := Lib.hid (show t.inst σ = .node X.head KS by rw [hKS]; exact HEQ.out)
      have HML := Lib.hid (S.treeP 6).row.2
      have HS6 := Lib.hid S
      clear S
      have S := HS6.out
      have hkl : X.kids.length ≤ 100000 := by
        have h1 := length_le_sizeL X.kids; have h2 := HVX.out.2; rw [T.size_eq] at h2; omega
      clear hKS
      obtain ⟨bo, hbo⟩ : ∃ b, b = w4.heap.size := ⟨_, rfl⟩
      have S5 := (S.box (b := bo) hbo.symm #[.int .i64 X.head, .slice none 0 0] 38).add (.owns treeE (bo + 1) (fun c => bo + 1 ≤ c) (.slice none 0 0) []) (Elt.Own.nil _ _ _ _)
      have S6 := S5.pick [0, 1, 2, 3, 4, 7, 8, 5, 6]
      obtain ⟨⟨y0, y1⟩, y2, y3⟩ := S.two 3
      clear S S5
      go_upto_region 6 with fail
      rw [← hbo]
      refine S6.genC (z := bo + 1) (by simp [hbo]) ?_
      intro w5 z7 S
      have HBO := Lib.hid (show bx + 2 ≤ bo by omega)
      clear S6 hbo z6 y0 y1 y2 y3 c0 c1
      obtain ⟨⟨y0, y1⟩, y2, y3⟩ := S.two 3
      go_wp2_with fail
      go_loopw [38] (fun i wr => ∃ (k nk : Nat) (o : Value), k ≤ X.kids.length ∧ i = .int .i64 k ∧ Hid (nk = n + 1 + sizeL (KS.take k) ∧ ∀ j, j < k → d + 1 + (gK KS j).deep ≤ 13) ∧ nk ≤ 40 ∧ bo + 1 ≤ wr.heap.size ∧ St w0 wr [.mapT N p b M, .box bs #[.map (some b)] 165, .box bn #[.int .i64 ((nk : Nat) : Int)] 3, .box bx #[.int .i64 X.head, .slice kx X.kids.length (X.kids.length + xs)] 38, .box (bx + 1) #[.int .i64 0, .slice none 0 0] 38, .box bo #[.int .i64 X.head, o] 38, .owns treeE (bo + 1) (fun c => bo + 1 ≤ c) o (KS.take k), .kept w bn, .treeP p (.agg #[.int .i64 X.head, .slice kx X.kids.length (X.kids.length + xs)]) X]) (fun i _ => X.kids.length - (intOf i).toNat)
      case atStart => exact ⟨0, m, _, by omega, rfl, ⟨by simp [HM1.out, sizeL], fun j hj => absurd hj (by omega)⟩, by have := HMM.out; omega, z7, S⟩
      case round =>
        clear S
        obtain ⟨k, nk, o, hk, rfl, HNK, hnk, z8, S⟩ := hrel
        by_cases hlt : k < X.kids.length
        · have hlti : (k : Int) < (X.kids.length : Int) := by omega
          have hrow := (S.treeP 8).row.1
          obtain ⟨bb, off, kq, kqs, rfl, hpb, d0, d1, hkt⟩ := hrow k hlt
          obtain ⟨bk, hbk⟩ : ∃ b, b = wr.heap.size := ⟨_, rfl⟩
          have hlk : (KS.take k).length = k := by have := HKL.out; simp; omega
          have HOW := Lib.hid (show ∀ c, o.ownBlock = some c → bo + 1 ≤ c ∧ c < bk from fun c hc => by rw [hbk]; exact S.ownlt treeE 6 rfl c hc)
          have SK := (S.add (.treeP p _ (gK X.kids k)) hkt).box hbk.symm #[.int .i64 (gK X.kids k).head, .slice kq (gK X.kids k).kids.length ((gK X.kids k).kids.length + kqs)] 38
          clear S hrow hpb hkt
          go_upto_region 9 with fail
          rw [← hbk]
          refine SK.genC (z := bk + 1) (by simp [hbk]) ?_
          intro w6 z9 S
          have HBK := Lib.hid (show bo + 1 ≤ bk by omega)
          clear SK hbk d0 d1
          have HOFF := Lib.hid (show offs bn 2 [.mapT N p b M, .box bs #[.map (some b)] 165, .box bn #[.int .i64 ((nk : Nat) : Int)] 3, .box bx #[.int .i64 X.head, .slice (some ⟨bb, off, none⟩) X.kids.length (X.kids.length + xs)] 38, .box (bx + 1) #[.int .i64 0, .slice none 0 0] 38, .box bo #[.int .i64 X.head, o] 38, .owns treeE (bo + 1) (fun c => bo + 1 ≤ c) o (KS.take k), .kept w bn, .treeP p (.agg #[.int .i64 X.head, .slice (some ⟨bb, off, none⟩) X.kids.length (X.kids.length + xs)]) X, .treeP p (.agg #[.int .i64 (gK X.kids k).head, .slice kq (gK X.kids k).kids.length ((gK X.kids k).kids.length + kqs)]) (gK X.kids k), .box bk #[.int .i64 (gK X.kids k).head, .slice kq (gK X.kids k).kids.length ((gK X.kids k).kids.length + kqs)] 38] from by
            simp only [offs, offAll, Fct.box, Fct.treeP, Fct.kept, Fct.mapT, Fct.owns, and_true]
            have h1 := HBX.out; have h2 := HLT.out; have h3 := HNE.out; have h4 := HBO.out; have h5 := HBK.out; have h6 := HB.out
            refine ⟨fun e => ?_, fun e => h3.2.2 e.symm, by omega, by omega, by omega, fun e => ?_, fun e => ?_, fun e => ?_, fun e => ?_, by omega⟩
            · rcases e with e | e
              · exact h3.2.1 e.symm
              · have := HP.out _ e; omega
            · rcases e with e | e
              · have := (HOW.out _ e).1; omega
              · omega
            · exact e.2 rfl
            · have := HP.out _ e; omega
            · have := HP.out _ e; omega)
          have HCALL := Lib.hid (S.fulled 2 rfl HOFF.out (HIH.out (13 - (d + 1)) (by have := HF.out; have := HDD.out; omega) (gK X.kids k) _ w6 (d + 1) nk (Nat.le_refl _) (by omega) (by have := HDD.out; omega) hnk (S.pick [0, 1, 2]) (S.treeP 9) (HVX.out.kid hlt)))
          obtain ⟨⟨u0, _⟩, u1, _⟩ := S.two 10
          have SH := Lib.hid S
          have e2 : ((d + 1 : Nat) : Int) = (d : Int) + 1 := by omega
          rw [e2] at HCALL
          clear S
          by_cases hfit : fitN nk (d + 1) ((gK X.kids k).inst σ)
          · have HFIT := Lib.hid hfit
            clear hfit
            go_upto_region 12 with (go_simp; go_at_call 135; refine HCALL.out.mono ?_; rintro e w7 ⟨ok, ka, sa, R, m2, rfl, HQ, hz7, S7⟩
                                    have hok : ok = true := by
                                      cases ok
                                      · exact absurd HFIT.out (HQ.out.2 rfl).2
                                      · rfl
                                    have HR1 := Lib.hid (HQ.out.1 hok)
                                    subst hok
                                    obtain rfl : R = (gK X.kids k).inst σ := HR1.out.1
                                    have S9 := S7.box (b := w7.heap.size) rfl #[.int .i64 ((gK X.kids k).inst σ).head, .slice ka ((gK X.kids k).inst σ).kids.length (((gK X.kids k).inst σ).kids.length + sa)] 38)
            refine S9.genC (z := w7.heap.size + 1) (by simp) ?_
            intro w8 z10 S
            have S11 := Lib.hid S
            obtain ⟨⟨v0, v1⟩, v2, v3⟩ := S.two 5
            have hl5 := S.lt 5
            obtain ⟨⟨q0, _⟩, q1, _⟩ := S.two 12
            have hl12 := S.lt 12
            clear S S9 S7
            go_wp2_with (at_builtin; refine wpList_app (by rfl) (.tmp 55) (.tmp 57) 32 (by rfl) treeE S11.out 6 rfl (x := (gK X.kids k).inst σ) (q := fun b => w6.heap.size ≤ b ∧ b < w7.heap.size) (p' := fun b => bo + 1 ≤ b) ⟨ka, sa, rfl, S11.out.treeP 11⟩ Try.underlying32 gi gz0 gz1 gz2 (by rfl) (by rfl) (by rfl) (by rfl) (by unfold maxLen; omega) (by omega) (by have := HBK.out; simp; omega) (by have := HB.out; have := HBX.out; have := HBO.out; have := HW0.out; omega)
                                      (fun bb2 h1 h2 h3 => by
                                        simp only [fset, fsnoc, offs, offAll, Fct.box, Fct.treeP, Fct.kept, Fct.mapT, Fct.owns, and_true]
                                        have h4 := HOW.out bb2 h1; have h5 := HBX.out; have h6 := HBO.out; have h7 := HBK.out; have h8 := HLT.out; have h9 := HW0.out
                                        refine ⟨fun e => ?_, by omega, by omega, by omega, by omega, by omega, by omega, fun e => ?_, fun e => ?_, by omega, by omega, by omega⟩
                                        · rcases e with e | e
                                          · omega
                                          · have := HP.out _ e; omega
                                        · have := HP.out _ e; omega
                                        · have := HP.out _ e; omega) (fun bb2 h1 h2 => by have h4 := (HOW.out bb2 h2).2; have h5 := h1.1; omega) (fun bb2 h1 => by have h6 := HBK.out; rcases h1 with h1 | h1; exact h1; have h5 := h1.1; omega) ?_; intro gg cap w9 S10 hs10 hgg hat; obtain ⟨⟨v0, v1⟩, v2, v3⟩ := S10.two 5; have hl10 := S10.lt 5)
            have HTK : KS.take (k + 1) = KS.take k ++ [(gK X.kids k).inst σ] := by
              rw [← HKG.out k hlt, gK_get (by have := HKL.out; omega)]
              exact List.take_succ_eq_append_getElem (by have := HKL.out; omega)
            rw [hlk] at S10
            have S12 := S10.pick [0, 1, 2, 3, 4, 5, 6, 7, 8]
            have S12 : St w0 w9 [.mapT N p b M, .box bs #[.map (some b)] 165, .box bn #[.int .i64 ((m2 : Nat) : Int)] 3, .box bx #[.int .i64 X.head, .slice (some ⟨bb, off, none⟩) X.kids.length (X.kids.length + xs)] 38, .box (bx + 1) #[.int .i64 0, .slice none 0 0] 38, .box bo #[.int .i64 X.head, o] 38, .owns treeE (bo + 1) (fun c => bo + 1 ≤ c) (.slice (some ⟨gg, 0, none⟩) (k + 1) cap) (KS.take k ++ [(gK X.kids k).inst σ]), .kept w bn, .treeP p (.agg #[.int .i64 X.head, .slice (some ⟨bb, off, none⟩) X.kids.length (X.kids.length + xs)]) X] := S12
            rw [← HTK] at S12
            have S13 := S12.set21 5 rfl (.slice (some ⟨gg, 0, none⟩) (k + 1) cap) (by have := HW0.out; have := HBX.out; have := HBO.out; omega) (by
              have h8 := (S12.ownlt treeE 6 rfl gg rfl).1
              simp only [offs, offAll, Fct.box, Fct.treeP, Fct.kept, Fct.mapT, Fct.owns, and_true]
              have h4 := HBX.out; have h5 := HBO.out; have h6 := HLT.out; have h7 := HW0.out
              refine ⟨fun e => ?_, by omega, by omega, by omega, by omega, fun e => ?_, by omega, fun e => ?_⟩
              · rcases e with e | e
                · omega
                · have := HP.out _ e; omega
              · rcases e with e | e
                · have e' : gg = bo := by simpa [Value.ownBlock] using e
                  omega
                · omega
              · have := HP.out _ e; omega)
            go_roundw
            case rel => exact ⟨k + 1, m2, _, by omega, by go_num, ⟨by have h1 := sizeL_take (l := KS) (i := k) (by have := HKL.out; omega); have h2 := HNK.out.1; have h3 := HR1.out.2.1; rw [HKG.out k hlt] at h1; omega, fun j hj => by
                by_cases hjk : j = k
                · subst hjk; rw [HKG.out j hlt]; exact HR1.out.2.2.2
                · exact HNK.out.2 j (by omega)⟩, by have h2 := HR1.out.2.2.1; have h3 := HR1.out.2.1; omega, by have := HBK.out; simp; omega, S13⟩
            case measure => simp [intOf] <;> omega
          · have HFIT := Lib.hid hfit
            clear hfit
            go_wp2_with (go_simp; go_at_call 135; refine HCALL.out.mono ?_; rintro e w7 ⟨ok, ka, sa, R, m2, rfl, HQ, hz7, S7⟩
                         have hok : ok = false := by
                           cases ok
                           · rfl
                           · have h := HQ.out.1 rfl; rw [h.1] at h; exact absurd h.2.2 HFIT.out
                         subst hok
                         have S9 := S7.box (b := w7.heap.size) rfl #[.int .i64 R.head, .slice ka R.kids.length (R.kids.length + sa)] 38
                         obtain ⟨⟨v0, v1⟩, v2, v3⟩ := S9.two 4; have hl4 := S9.lt 4)
            have S10 := S9.pick [0, 1, 2, 3, 4, 7]
            have S10 : St w0 (w7.alloc _) [.mapT N p b M, .box bs #[.map (some b)] 165, .box bn #[.int .i64 ((m2 : Nat) : Int)] 3, .box bx #[.int .i64 X.head, .slice (some ⟨bb, off, none⟩) X.kids.length (X.kids.length + xs)] 38, .box (bx + 1) #[.int .i64 0, .slice none 0 0] 38, .kept w bn] := S10
            have S11 := S10.set2 4 rfl (.int .i64 0) (.slice none 0 0) (by have := HBX.out; have := HW0.out; have := HBO.out; omega) (by simp only [offs, offAll, Fct.box, Fct.kept, Fct.mapT, and_true]; have h1 := HBX.out; have h2 := HLT.out; have h3 := HW0.out; refine ⟨fun e => ?_, by omega, by omega, by omega, by omega⟩; rcases e with e | e; omega; have := HP.out _ e; omega)
            refine ret_box2b (.int .i64 0) (.slice none 0 0) (.bool false) (bx + 1) 38 (S11.block 4) (fun w' q0 q1 => by simp [results, Try.results135, go_sem, q0, q1]) rfl ?_
            have hk2 := S11.kept 5
            have hs : w.heap.size ≤ w7.heap.size := by have := HBX.out; have := HBO.out; have := HBK.out; omega
            refine ⟨false, none, 0, zeroT, m2, rfl, ⟨(fun h => by cases h), (fun _ => ⟨rfl, fun hf => ?_⟩), TreeP.leaf _ _ _, S11.block 2, (fun c h1 h2 => hk2 c h1 h2), by simp; omega, S11.bel⟩⟩
            rw [HEK.out] at hf
            have h4 := fitN_kid hf (k := k) (by have := HKL.out; omega)
            rw [HKG.out k hlt, ← HNK.out.1] at h4
            exact HFIT.out h4
        · obtain rfl : k = X.kids.length := by omega
          have hnl : ¬ ((X.kids.length : Int) < (X.kids.length : Int)) := by omega
          have hkk : KS.take X.kids.length = KS := by rw [← HKL.out, List.take_length]
          rw [hkk] at S
          obtain ⟨ro, rsp, rfl, hrow, hml2⟩ := (S.owns treeE 6).row (fun b h => h)
          have HT := Lib.hid hrow
          have SB := Lib.hid S
          obtain ⟨⟨v0, v1⟩, v2, v3⟩ := S.two 4
          obtain ⟨⟨q0, _⟩, q1, _⟩ := S.two 5
          have hl1 := S.lt 4
          clear hrow S
          go_wp2_with fail
          have S14 := (SB.out.pick [0, 1, 2, 3, 4, 7])
          have S14 : St w0 wr [.mapT N p b M, .box bs #[.map (some b)] 165, .box bn #[.int .i64 ((nk : Nat) : Int)] 3, .box bx #[.int .i64 X.head, .slice kx X.kids.length (X.kids.length + xs)] 38, .box (bx + 1) #[.int .i64 0, .slice none 0 0] 38, .kept w bn] := S14
          have S15 := S14.set2 4 rfl (.int .i64 X.head) (.slice ro KS.length (KS.length + rsp)) (by have := HBX.out; have := HW0.out; omega) (by simp only [offs, offAll, Fct.box, Fct.kept, Fct.mapT, and_true]; have h1 := HBX.out; have h2 := HLT.out; have h3 := HW0.out; refine ⟨fun e => ?_, by omega, by omega, by omega, by omega⟩; rcases e with e | e; omega; have := HP.out _ e; omega)
          refine ret_box2b (.int .i64 X.head) (.slice ro KS.length (KS.length + rsp)) (.bool true) (bx + 1) 38 (S15.block 4) (fun w' q0 q1 => by simp [results, Try.results135, go_sem, q0, q1]) rfl ?_
          have hk2 := S15.kept 5
          have hs : w.heap.size ≤ wr.heap.size := by have := HBX.out; have := HBO.out; omega
          have h8 := TreeP.close (h := X.head) (sp := rsp) HT.out.rowP hml2
          have h9 := HNK.out
          rw [hkk] at h9
          refine ⟨true, ro, rsp, .node X.head KS, nk, rfl, ⟨(fun _ => ⟨HEK.out.symm, ?_, ?_⟩), (fun h => by cases h), ((h8.setCell (a := ⟨bx + 1, 0, none⟩) (by have := HBO.out; simp; omega) _).setCell (a := ⟨bx + 1, 1, none⟩) (by have := HBO.out; simp; omega) _).mono (fun b h _ => by have := HBX.out; have := HBO.out; omega), S15.block 2, (fun c h1 h2 => hk2 c h1 h2), by simp; omega, S15.bel⟩⟩
          · rw [T.size_eq]; simp only [T.kids]; omega
          · have h10 := deepL_all (ks := KS) (m := 12 - d) (fun j hj => by have := h9.2 j (by have := HKL.out; omega); omega)
            have h11 := HDD.out; have h12 := HKL.out
            unfold fitN
            rw [T.size_eq, T.deep_eq]; simp only [T.kids]; omega
theorem full135 (N : Nat) (p : Nat → Prop) (b bs bn : Nat) (M : PM) (σ : Nat → T) (w0 : World) (hb : w0.heap.size ≤ b) (hbs : w0.heap.size ≤ bs) (hbn : w0.heap.size ≤ bn) (hp : ∀ c, p c → c < w0.heap.size) (hN : N ≤ 1000) (hg : GoodM N M) (ha : Acyc M) (hσ : Sol M σ) (hfr : ∀ x, M x = none → σ x = vT x)
    (f : Nat) : FullOK N p b bs bn M σ w0 f := by
  induction f using Nat.strongRecOn with
  | ind f ih => exact full_step N p b bs bn M σ w0 hb hbs hbn hp hN hg ha hσ hfr f ih
end Go.Proofs.Ytlhnfdjidjgfgaa
