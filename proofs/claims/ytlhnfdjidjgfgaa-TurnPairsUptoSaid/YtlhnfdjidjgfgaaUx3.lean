/-
  Walks: the closure of (*unify.solver).round.
-/
import Derived.Test.YtlhnfdjidjgfgaaProg
import Derived.Test.YtlhnfdjidjgfgaaUx2
import Derived.Test.YtlhnfdjidjgfgaaUn2
import Derived.Test.YtlhnfdjidjgfgaaSt3
import Derived.Test.YtlhnfdjidjgfgaaR1
import Derived.RegionTactic
import Derived.Lib.QuietBelow
import Derived.BigQuiet
namespace Go.Proofs.Ytlhnfdjidjgfgaa
open Go.RowKit Go.Shelf Go.Maps
set_option linter.unusedVariables false
set_option maxHeartbeats 400000
attribute [local go_sem] Oper.semAt_some

def Fct.mapS (N K b : Nat) (D P : List Nat) : Fct :=
  ⟨fun c => c = b, MapS N K b D P, fun w w' h hm => hm.carry (h b rfl hm.lt)⟩
theorem St.mapS {w0 w : World} {l : List Fct} (S : St w0 w l) (i : Nat) {N K b : Nat} {D P : List Nat} (h : Fct.at l i = Fct.mapS N K b D P := by rfl) : MapS N K b D P w := by
  have := S.2 i
  rw [h] at this; exact this
theorem St.mapPutS {w0 w w1 : World} {l : List Fct} (S : St w0 w l) (i : Nat) {N K K' b : Nat} {D P D' P' : List Nat} (hi : Fct.at l i = Fct.mapS N K b D P) (hm : MapS N K' b D' P' w1) (hg : w.grownBy w1 (some b)) (h0 : w0.heap.size ≤ b) (hoff : offs b i l) : St w0 w1 (fset l i (.mapS N K' b D' P')) := by
  refine ⟨S.bel.grown hg S.size (fun c hc => by cases hc; exact h0), fun j => ?_⟩
  by_cases hj : j = i
  · subst hj
    rcases at_fset_same (.mapS N K' b D' P') l j with h | h
    · rw [h]; exact hm
    · rw [h]; trivial
  · rw [at_fset_other _ _ _ _ hj]
    exact (Fct.at l j).stable w w1 (fun c hc hl => hg.block c hl (fun e => by cases e; exact offs_at hoff j hj hc)) (S.2 j)
/-- what the closure leaves -/
def VisitP (N K bm : Nat) (M : PM) (D P : List Nat) (x : Nat) (W0 w : World) (e : Ending) (w' : World) : Prop :=
  ∃ r : Bool, e = .returned (.bool r) ∧ (r = true → ∃ z, Way M z z) ∧ (r = false → ∃ D', MapS N K bm D' P w' ∧ D <+: D' ∧ x ∈ D' ∧ OrdD M D') ∧ (∀ c, c < w.heap.size → c ≠ bm → w'.heap[c]? = w.heap[c]?) ∧ w.heap.size ≤ w'.heap.size ∧ Below W0.heap.size W0 w'
def VisitOK (N : Nat) (p : Nat → Prop) (b1 b3 b4 bs bm : Nat) (M : PM) (W0 : World) (n : Nat) : Prop := ∀ (K : Nat) (D P : List Nat) (hd : Int) (w : World), newN N D P ≤ n → hd < 0 → (-hd - 1).toNat < N → K ≤ 90000 → St W0 w [.box b3 #[.map (some bm)] 170, .box b1 #[.pointer (some ⟨bs, 0, none⟩)] 160, .box b4 #[.func (.func 158) #[] #[.pointer (some ⟨b3, 0, none⟩), .pointer (some ⟨b1, 0, none⟩), .pointer (some ⟨b4, 0, none⟩)]] 144, .mapS N K bm D P] → OrdD M D → (∀ z ∈ P, Way M z (-hd - 1).toNat) →
  Calls Try.prog 158 #[.int .i64 hd, .pointer (some ⟨b3, 0, none⟩), .pointer (some ⟨b1, 0, none⟩), .pointer (some ⟨b4, 0, none⟩)] w (VisitP N K bm M D P (-hd - 1).toNat W0 w)
theorem stV_new {D P : List Nat} {z : Int} (h1 : (-z - 1).toNat ∉ D) (h2 : (-z - 1).toNat ∉ P) : stV D P z = 0 := by unfold stV; rw [if_neg (fun h => h2 h.2), if_neg (fun h => h1 h.2)]
theorem stV_begun {D P : List Nat} {z : Int} (hz : z < 0) (h2 : (-z - 1).toNat ∈ P) : stV D P z = 1 := by unfold stV; rw [if_pos ⟨hz, h2⟩]
theorem stV_done {D P : List Nat} {z : Int} (hz : z < 0) (h1 : (-z - 1).toNat ∈ D) (h2 : (-z - 1).toNat ∉ P) : stV D P z = 2 := by unfold stV; rw [if_neg (fun h => h2 h.2), if_pos ⟨hz, h1⟩]
theorem MapS.pos {N K b : Nat} {D P : List Nat} {w : World} (h : MapS N K b D P w) {x : Nat} (hx : x < N) (h1 : x ∉ D) (h2 : x ∉ P) : ∃ K', K = K' + 1 := by
  obtain ⟨Q, n, _, h3, _⟩ := h
  have := newN_begin hx h1 h2
  exact ⟨K - 1, by omega⟩

theorem newN_pre {N : Nat} {D D' P : List Nat} (h : D <+: D') : newN N D' P ≤ newN N D P := by
  unfold newN
  refine List.countP_mono_left fun z _ hz => ?_
  simp only [decide_eq_true_eq] at hz ⊢
  exact ⟨fun hd => hz.1 (h.subset hd), hz.2⟩
theorem Below.between {B : Nat} {W0 V V1 : World} (h : Below B W0 V) (h1 : Below B W0 V1) (hs : V.heap.size ≤ V1.heap.size) : Below B V V1 :=
  ⟨h1.os.trans h.os.symm, h1.tape.trans h.tape.symm, h1.output.trans h.output.symm, hs, fun k hk => (h1.block k hk).trans (h.block k hk).symm⟩
theorem marks1 {B : Nat} {W : World} {D : Nat} (h1 : B ≤ D) (h2 : W.heap[D]? = some (.deferred (some []))) : Marks B W [D] := by
  refine ⟨by simp, fun b hb => ?_⟩
  simp at hb
  subst hb; exact ⟨h1, h2⟩
/-- what holds behind each node -/
structure VisI (N K bm br : Nat) (M : PM) (D P : List Nat) (W0 w8 : World) (ts : List T) (V : World) : Prop where
  some_ : ∃ D', MapS N K bm D' P V ∧ D <+: D' ∧ OrdD M D' ∧ ∀ y ∈ ts, y.head < 0 → vI y ∈ D'
  res : V.heap[br]? = some (.cells #[.bool false] 4 (0, 0))
  same : ∀ c, c < w8.heap.size → c ≠ bm → c ≠ br → V.heap[c]? = w8.heap[c]?
  size : w8.heap.size ≤ V.heap.size
  bel : Below W0.heap.size W0 V
/-- what holds when a round has been found -/
structure VisX (bm br : Nat) (M : PM) (W0 w8 : World) (V : World) : Prop where
  way : ∃ z, Way M z z
  res : V.heap[br]? = some (.cells #[.bool true] 4 (0, 0))
  same : ∀ c, c < w8.heap.size → c ≠ bm → c ≠ br → V.heap[c]? = w8.heap[c]?
  size : w8.heap.size ≤ V.heap.size
  bel : Below W0.heap.size W0 V
theorem VisI.carry {N K bm br : Nat} {M : PM} {D P : List Nat} {W0 w8 : World} {ts : List T} {V V' : World} (h : VisI N K bm br M D P W0 w8 ts V) (hm : bm < w8.heap.size) (hr : br < w8.heap.size) (hs : ∀ c, c < w8.heap.size → V'.heap[c]? = V.heap[c]?) (hz : V.heap.size ≤ V'.heap.size) (hb : Below W0.heap.size W0 V') : VisI N K bm br M D P W0 w8 ts V' := by
  obtain ⟨D', h1, h2⟩ := h.some_
  exact ⟨⟨D', h1.carry (hs bm hm), h2⟩, (hs br hr).trans h.res, fun c h1 h2 h3 => (hs c h1).trans (h.same c h1 h2 h3), Nat.le_trans h.size hz, hb⟩
theorem VisX.carry {bm br : Nat} {M : PM} {W0 w8 : World} {V V' : World} (h : VisX bm br M W0 w8 V) (hr : br < w8.heap.size) (hs : ∀ c, c < w8.heap.size → V'.heap[c]? = V.heap[c]?) (hz : V.heap.size ≤ V'.heap.size) (hb : Below W0.heap.size W0 V') : VisX bm br M W0 w8 V' :=
  ⟨h.way, (hs br hr).trans h.res, fun c h1 h2 h3 => (hs c h1).trans (h.same c h1 h2 h3), Nat.le_trans h.size hz, hb⟩
theorem grown_below {W0 X Y : World} {row : Option Nat} {B : Nat} (hb : Below W0.heap.size W0 X) (hg : X.grownBy Y row) (h0 : W0.heap.size ≤ B) (hr : ∀ r, row = some r → B ≤ r ∧ ∃ o : Obj, X.heap[r]? = some o ∧ o.isCells = false) : Below W0.heap.size W0 Y :=
  hb.grown hg hb.size (fun c hc => by have := (hr c hc).1; omega)

set_option maxRecDepth 100000 in
set_option maxHeartbeats 8000000 in
theorem visit_step (N : Nat) (p : Nat → Prop) (b b1 b3 b4 bs bm : Nat) (M : PM) (W0 : World) (hN : N ≤ 1000) (hMT : MapT N p b M W0) (hbs : W0.heap[bs]? = some (.cells #[.map (some b)] 165 (0, 0))) (hg : GoodM N M) (hp : ∀ c, p c → c < W0.heap.size)
    (h1 : W0.heap.size ≤ b1) (h3 : W0.heap.size ≤ b3) (h4 : W0.heap.size ≤ b4) (hm : W0.heap.size ≤ bm) (n : Nat) (ih : ∀ n', n' < n → VisitOK N p b1 b3 b4 bs bm M W0 n') : VisitOK N p b1 b3 b4 bs bm M W0 n := by
  intro K D P hd w hn hneg hxN hK S0 hO hP
  have HIH := Lib.hid ih; have HM := Lib.hid hMT; have HG := Lib.hid hg; have HPW := Lib.hid hp; have HN := Lib.hid hn; have HO := Lib.hid hO; have HPP := Lib.hid hP; have HN1 := Lib.hid hN; have HK := Lib.hid hK; have HXN := Lib.hid hxN
  have HBB := Lib.hid (show W0.heap.size ≤ b1 ∧ W0.heap.size ≤ b3 ∧ W0.heap.size ≤ b4 ∧ W0.heap.size ≤ bm from ⟨h1, h3, h4, hm⟩)
  have HBS := Lib.hid (show ∀ W, Below W0.heap.size W0 W → W.cell? ⟨bs, 0, none⟩ = some (.map (some b)) from fun W h => (box1 (Below.heapAt h hbs)).1)
  have HBM := Lib.hid (show ∀ W, Below W0.heap.size W0 W → W.heap[b]? = W0.heap[b]? from fun W h => h.block b hMT.lt)
  have HLT := Lib.hid (show b1 < w.heap.size ∧ b3 < w.heap.size ∧ b4 < w.heap.size ∧ bm < w.heap.size from ⟨S0.lt 1, S0.lt 0, S0.lt 2, (S0.mapS 3).lt⟩)
  have HNE := Lib.hid (show bm ≠ b1 ∧ bm ≠ b3 ∧ bm ≠ b4 from by
    obtain ⟨Q, k, ⟨es, clock, hmm, _⟩, _⟩ := S0.mapS 3
    refine ⟨fun e => ?_, fun e => ?_, fun e => ?_⟩
    · have h := S0.block 1; rw [← e, hmm] at h; cases h
    · have h := S0.block 0; rw [← e, hmm] at h; cases h
    · have h := S0.block 2; rw [← e, hmm] at h; cases h)
  have hwf : (Lit.int .i64 hd).wf = true := wf64 (by omega) (by omega)
  have HWF := Lib.hid hwf
  obtain ⟨br, hbr⟩ : ∃ b, b = w.heap.size := ⟨_, rfl⟩
  have S1 := S0.box hbr.symm #[.bool false] 4
  have hsz1 : (w.alloc (.cells #[.bool false] 4)).heap.size = br + 1 := by simp [hbr]
  have HKEEP := Lib.hid (show ∀ c, c < w.heap.size → (w.alloc (.cells #[.bool false] 4)).heap[c]? = w.heap[c]? from fun c hc => Below.heap_alloc w _ c hc)
  have HBR := Lib.hid hbr; have HB0 := Lib.hid S0.bel; have HMS := Lib.hid (S0.mapS 3)
  clear ih hMT hbs hg hp h1 h3 h4 hm hn hxN hK hO hP S0 hN hwf
  refine (callsIn_wide (n := 4)).1 ?_
  refine callsIn_of_wp_marks Try.func158 rfl trivial ?_ rfl
  simp only [Try.ntmps158, List.size_toArray, List.length_cons, List.length_nil, Nat.reduceAdd, Nat.reduceSub, Array.replicate_succ, Array.replicate_zero, List.push_toArray, List.append_toArray, List.nil_append, List.cons_append]
  refine wpIn_wide.2 ?_
  have hl := (S1.mapS 3).look HWF.out
  have HL := Lib.hid hl
  obtain ⟨x0, _⟩ := S1.one 0
  clear hl
  have hlr := HL.out _ rfl
  by_cases hxP : (-hd - 1).toNat ∈ P
  · have hst := stV_begun (D := D) hneg hxP
    rw [hst] at hlr
    have HXP := Lib.hid hxP; have HST := Lib.hid hst
    clear hst hxP
    have hwa : w.heap.size < (w.alloc (.cells #[.bool false] 4)).heap.size := by simp
    clear S1
    go_wp2_with fail
    refine retM_cell1 [] (.bool true) w.heap.size 4 (heap_ofAlloc w _) (Marks.nil w.heap.size _) (by simp) (fun w' q0 => by simp [results, Try.results158, go_sem, q0]) ?_
    intro w' hb'
    have hf : ∀ c, c < w.heap.size → w'.heap[c]? = w.heap[c]? := fun c hc => (hb'.block c hc).trans (Below.heap_alloc w _ c hc)
    have hbel := (HB0.out.alloc HB0.out.size (.cells #[.bool true] 4)).trans (hb'.mono HB0.out.size)
    have hsz : w.heap.size ≤ w'.heap.size := by have := hb'.size; simp at this; omega
    exact ⟨true, rfl, (fun _ => ⟨_, HPP.out _ HXP.out⟩), (fun h => by cases h), fun c hc _ => hf c hc, hsz, hbel⟩
  · by_cases hxD : (-hd - 1).toNat ∈ D
    · have hst := stV_done hneg hxD hxP
      rw [hst] at hlr
      have HXD := Lib.hid hxD; have HST := Lib.hid hst
      clear hst hxP hxD
      have hwa : w.heap.size < (w.alloc (.cells #[.bool false] 4)).heap.size := by simp
      clear S1
      go_wp2_with fail
      refine retM_cell1 [] (.bool false) w.heap.size 4 (heap_ofAlloc w _) (Marks.nil w.heap.size _) (by simp) (fun w' q0 => by simp [results, Try.results158, go_sem, q0]) ?_
      intro w' hb'
      have hf : ∀ c, c < w.heap.size → w'.heap[c]? = w.heap[c]? := fun c hc => (hb'.block c hc).trans (Below.heap_alloc w _ c hc)
      have hbel := (HB0.out.alloc HB0.out.size (.cells #[.bool false] 4)).trans (hb'.mono HB0.out.size)
      have hsz : w.heap.size ≤ w'.heap.size := by have := hb'.size; simp at this; omega
      exact ⟨false, rfl, (fun h => by cases h), fun _ => ⟨D, HMS.out.carry (hf bm HLT.out.2.2.2), List.prefix_refl _, HXD.out, HO.out⟩, fun c hc _ => hf c hc, hsz, hbel⟩
    · have hst := stV_new hxD hxP
      rw [hst] at hlr
      obtain ⟨K', rfl⟩ := (S1.mapS 3).pos HXN.out hxD hxP
      obtain ⟨w2, hrun, hm2, hg2⟩ := (S1.mapS 3).start HWF.out hneg HXN.out hxD hxP (by have := HK.out; omega)
      have HST := Lib.hid hst; have HXD := Lib.hid hxD; have HXP := Lib.hid hxP
      clear hst hxD hxP
      have SM2 := Lib.hid (S1.mapPutS 3 rfl hm2 hg2 HBB.out.2.2.2 (by simp only [fsnoc, offs, offAll, Fct.box, and_true]; have h1 := HNE.out; have h2 := HLT.out; refine ⟨h1.2.1, h1.1, h1.2.2, by omega⟩))
      have hz2 : br + 1 ≤ w2.heap.size := by have := hg2.size; omega
      have HG2 := Lib.hid (show ∀ c, c < w.heap.size → c ≠ bm → w2.heap[c]? = w.heap[c]? from fun c hc hne => (hg2.block c (by have := HBR.out; omega) (fun e => hne (by cases e; rfl))).trans (HKEEP.out c hc))
      have HBR2 := Lib.hid hg2.size
      clear S1 hm2 hg2 hsz1
      go_upto_region 4 with (fail)
      have b1c := (SM2.out.one 1).1
      have bsc := HBS.out w2 SM2.out.bel
      clear hrun x0 hlr
      rcases HM.out.look hneg HWF.out with ⟨t, c, hmx, htt, hl2⟩ | ⟨hmx, hl2⟩
      · obtain ⟨k, sp, hte⟩ := htt.at.form
        rw [hte] at htt hl2
        have hlk := hl2 w2 (HBM.out w2 SM2.out.bel)
        have HTT := Lib.hid htt; have HMX := Lib.hid hmx
        clear hl2 htt hmx hte
        go_wp2_with fail
        obtain ⟨bt, hbt⟩ : ∃ b, b = w2.heap.size := ⟨_, rfl⟩
        rw [← hbr, ← hbt]
        have S3 := (SM2.out.box (b := bt) hbt.symm #[.int .i64 t.head, .slice k t.kids.length (t.kids.length + sp)] 38)
        refine (nodes48 (.agg #[.int .i64 t.head, .slice k t.kids.length (t.kids.length + sp)]) t _ (HTT.out.at.kept S3.bel)).mono ?_
        rintro e w8 ⟨rfl, hw8⟩
        have S4 := S3.box (b := bt + 1) (by simp [hbt]) #[.int .i64 t.head, .slice k t.kids.length (t.kids.length + sp)] 38
        have hz8 : ((w2.alloc (.cells #[.int .i64 t.head, .slice k t.kids.length (t.kids.length + sp)] 38)).alloc (.cells #[.int .i64 t.head, .slice k t.kids.length (t.kids.length + sp)] 38)).heap.size = bt + 2 := by simp [hbt]
        have hof : ∀ c, c < w2.heap.size → ((w2.alloc (.cells #[.int .i64 t.head, .slice k t.kids.length (t.kids.length + sp)] 38)).alloc (.cells #[.int .i64 t.head, .slice k t.kids.length (t.kids.length + sp)] 38)).heap[c]? = w2.heap[c]? := fun c hc => (Below.heap_alloc _ _ c (by simp; omega)).trans (Below.heap_alloc _ _ c hc)
        have hsz3 : (w2.alloc (.cells #[.int .i64 t.head, .slice k t.kids.length (t.kids.length + sp)] 38)).heap.size = bt + 1 := by simp [hbt]
        replace hw8 : w8 = (w2.alloc (.cells #[.int .i64 t.head, .slice k t.kids.length (t.kids.length + sp)] 38)).alloc (.cells #[.int .i64 t.head, .slice k t.kids.length (t.kids.length + sp)] 38) := hw8
        rw [← hw8] at S4 hz8 hof
        rw [hsz3]
        have S8 := Lib.hid S4; have HZ8 := Lib.hid hz8
        have HFR := Lib.hid (show ∀ c, c < w.heap.size → c ≠ bm → w8.heap[c]? = w.heap[c]? from fun c hc hne => (hof c (by omega)).trans (HG2.out c hc hne))
        obtain ⟨bk, hbk⟩ : ∃ b, b = bt + 1 := ⟨_, rfl⟩
        rw [← hbk]
        have HBK := Lib.hid hbk; have HBT := Lib.hid hbt
        clear S3 S4 hw8 hz8 hof hsz3 hbk hbt hbr b1c bsc hlk
        go_wp2_with fail
        have hk8 : w8.heap[bk]? = some (.cells #[.int .i64 t.head, .slice k t.kids.length (t.kids.length + sp)] 38 (0, 0)) := by rw [HBK.out]; exact S8.out.block 6
        have hb8 := S8.out.bel
        have hvt := HG.out _ _ HMX.out
        have hn1 := HBB.out; have hn2 := HLT.out; have hn3 := HNE.out
        have hn4 : br + 1 ≤ bt ∧ bk ≤ bt + 1 ∧ bt + 1 ≤ bk ∧ w8.heap.size ≤ bk + 1 ∧ bk + 1 ≤ w8.heap.size := by have := HBT.out; have := HBK.out; have := HZ8.out; omega
        have hn5 : w.heap.size ≤ br ∧ br ≤ w.heap.size := by have := HBR.out; omega
        have HRES := Lib.hid (show w8.heap[br]? = some (.cells #[.bool false] 4 (0, 0)) from S8.out.block 4)
        have HX3 := Lib.hid (S8.out.block 0); have HX1 := Lib.hid (S8.out.block 1); have HX4 := Lib.hid (S8.out.block 2)
        refine (wpIn_wide (n := 4)).1 ?_
        refine wpIn_rangeFunc_ownH rfl (by omega) (gf := 123) (lb := #[.pointer (some ⟨bk, 0, none⟩)]) rfl trivial (enters_of Try.func123 (by kernel_rfl) rfl)
          (nodes_stops W0 bk bk t k sp w8 (by have := hvt.2.1.2; omega) (by have := hvt.2.1.2; have := deep_le t; omega) (by omega) hb8 (by omega) HTT.out.at hk8) (fun h k => KpN.trans h k) (KpN.putObj hb8.size) (Below.refl _ _) (fun _ => rfl)
          (fun (pre : List (NX W0 t)) V => VisI N K' bm br M D ((-hd - 1).toNat :: P) W0 w8 (pre.map NX.t) V)
          (fun c (pre : List (NX W0 t)) V => c = .ret ∧ VisX bm br M W0 w8 V)
          (fun s X Y row hs hg hr => hs.carry (by omega) (by omega) (fun c hc => hg.block c (by have := hs.size; omega) (fun e => by have := (hr c e.symm).1; omega)) hg.size (grown_below hs.bel hg hb8.size hr))
          (fun c s X Y row hs hg hr => ⟨hs.1, hs.2.carry (by omega) (fun c hc => hg.block c (by have := hs.2.size; omega) (fun e => by have := (hr c e.symm).1; omega)) hg.size (grown_below hs.2.bel hg hb8.size hr)⟩)
          ⟨⟨D, S8.out.mapS 3, List.prefix_refl _, HO.out, fun y hy => by simp at hy⟩, HRES.out, fun _ _ _ _ => rfl, Nat.le_refl _, hb8⟩
          (fun x a' V => ∃ Bx : Nat, V.heap[Bx]? = some (.cells #[.int .i64 x.t.head, .slice x.ao x.t.kids.length (x.t.kids.length + x.sp)] 38 (0, 0)) ∧ a' = { tmps := #[.int IntKind.i64 hd, .pointer (some ⟨b3, 0, none⟩), .pointer (some ⟨b1, 0, none⟩), .pointer (some ⟨b4, 0, none⟩), undef, .pointer (some ⟨br, 0, none⟩), .pointer (some ⟨bt, 0, none⟩), .bool true, undef, .pointer (some ⟨Bx, 0, none⟩), .map (some bm), .int .i64 hd, .int .i64 0, .bool false, undef, undef, undef, undef, .map (some bm), .int .i64 hd, .tuple #[.agg #[.int .i64 t.head, .slice k t.kids.length (t.kids.length + sp)], .bool true], .pointer (some ⟨bs, 0, none⟩), .pointer (some ⟨bs, 0, none⟩), .pointer (some ⟨bs, 0, none⟩), .map (some b), .int .i64 hd, .tuple #[.agg #[.int .i64 t.head, .slice k t.kids.length (t.kids.length + sp)], .bool true], .agg #[.int .i64 t.head, .slice k t.kids.length (t.kids.length + sp)], .bool true, .bool true, .agg #[.int .i64 t.head, .slice k t.kids.length (t.kids.length + sp)], .func (Fn.func 123) #[] #[.pointer (some ⟨bk, 0, none⟩)], x.pl, .agg #[.int .i64 x.t.head, .slice x.ao x.t.kids.length (x.t.kids.length + x.sp)], undef, undef, undef, undef, undef, undef, undef, undef, undef, undef, undef], defers := [] })
          (fun x a' _ X Y row hs hg hr => by obtain ⟨Bx, q2, q3⟩ := hs; exact ⟨Bx, own_block Bx (fun _ : Unit => _) (fun _ => rfl) () X Y row q2 hg (fun r e => (hr r e).2), q3⟩)
          ?assign ?body ?done ?stop
        case assign =>
          rintro ll pre x V K hI hK
          have HKK := Lib.hid hK; have HI := Lib.hid hI
          simp only [NX.encs]
          clear hK hI
          gi_wp2
          exact HKK.out _ _ (KeepsFrom.alloc' _ _ _) (KpN.of ((Below.refl _ V).alloc (Nat.le_refl _) _) HI.out.bel.size) (HI.out.carry (by omega) (by omega) (fun c hc => Below.heap_alloc V _ c (by have := HI.out.size; omega)) (by simp) (HI.out.bel.alloc HI.out.bel.size _)) ⟨V.heap.size, heap_ofAlloc V _, rfl⟩
        case body =>
          rintro ll pre x a' V hl ⟨rr, hr⟩ hI ⟨Bx, hbx, rfl⟩ hlt
          clear hr rr
          have HI := Lib.hid hI
          obtain ⟨ypl, yao, ysp, yt, yat, yht, ym⟩ := x
          obtain ⟨⟨x0, _⟩, x1, _⟩ := box2 hbx
          obtain ⟨v0, v1⟩ := box1 ((hI.same b4 (by omega) (by omega) (by omega)).trans HX4.out)
          obtain ⟨q0, q1⟩ := box1 hI.res
          have hqr := heap_lt hI.res
          dsimp only at x0 x1 hbx ⊢
          by_cases hy : yt.head < 0
          · have hyl := hvt.2.1.1 yt ym hy
            have hyx : t.has (vI yt) := pre_has ym hy
            obtain ⟨D', hs', hd', ho', hall⟩ := hI.some_
            have SV : St W0 V [.box b3 #[.map (some bm)] 170, .box b1 #[.pointer (some ⟨bs, 0, none⟩)] 160, .box b4 #[.func (.func 158) #[] #[.pointer (some ⟨b3, 0, none⟩), .pointer (some ⟨b1, 0, none⟩), .pointer (some ⟨b4, 0, none⟩)]] 144, .mapS N K' bm D' ((-hd - 1).toNat :: P)] := ⟨hI.bel, fun i => by
              match i with
              | 0 => exact (hI.same b3 (by omega) (by omega) (by omega)).trans HX3.out
              | 1 => exact (hI.same b1 (by omega) (by omega) (by omega)).trans HX1.out
              | 2 => exact (hI.same b4 (by omega) (by omega) (by omega)).trans HX4.out
              | 3 => exact hs'
              | i + 4 => trivial⟩
            have HWAY := Lib.hid (show ∀ z ∈ (-hd - 1).toNat :: P, Way M z (vI yt) from fun z hz => by
              have e1 : Way M (-hd - 1).toNat (vI yt) := .one HMX.out hyx
              rcases List.mem_cons.1 hz with rfl | hz
              · exact e1
              · exact .more (HPP.out z hz) e1)
            have hcall := HIH.out (newN N D' ((-hd - 1).toNat :: P)) (by have h1 := newN_pre (N := N) (P := (-hd - 1).toNat :: P) hd'; have h2 := newN_begin HXN.out HXD.out HXP.out; have h3 := HN.out; omega) K' D' ((-hd - 1).toNat :: P) yt.head V (Nat.le_refl _) hy hyl.2 (by have := HK.out; omega) SV ho' HWAY.out
            have HCALL := Lib.hid hcall; have HD' := Lib.hid hd'; have HALL := Lib.hid hall
            have HYL := Lib.hid hyl
            clear hcall hd' hall ho' hs' SV hyl hyx hI hbx
            gi_wp2
            refine ⟨trivial, ?_⟩
            refine (CallsIn.inRound ll (callsIn_wide.2 HCALL.out)).mono ?_
            rintro e V1 ⟨r, rfl, hr1, hr2, hfr, hz1, hb1⟩
            have HR1 := Lib.hid hr1; have HR2 := Lib.hid hr2; have HF1 := Lib.hid hfr; have HB1 := Lib.hid hb1
            have hres1 := (hfr br (by omega) (by omega)).trans HI.out.res
            have HRS1 := Lib.hid hres1
            have HKF := Lib.hid (show KeepsFrom w8.heap.size V V1 from ⟨hz1, fun c o hc ho _ => (hfr c (Array.getElem?_eq_some_iff.1 ho).1 (by omega)).trans ho⟩)
            clear q0 q1 hr1 hr2 hfr hb1 x0 x1 v0 v1
            obtain ⟨q0, q1⟩ := box1 hres1
            have hqr1 := heap_lt hres1
            clear hres1
            cases r with
            | true =>
              gi_wp2
              exact ⟨HKF.out.trans ((KeepsOthers.setCell _ _ _).from _), rfl, (by first | exact HR1.out rfl | exact HR1.out trivial), box1_set' HRS1.out _ rfl, fun c h1 h2 h3 => (Below.heap_setCell V1 _ _ c h3).trans ((HF1.out c (by have := HI.out.size; omega) h2).trans (HI.out.same c h1 h2 h3)), by have := HI.out.size; simp; omega, HB1.out.setCell (p := ⟨br, 0, none⟩) (by show W0.heap.size ≤ br; omega) _⟩
            | false =>
              gi_wp2
              exact ⟨HKF.out, ⟨Below.between HI.out.bel HB1.out hz1, fun c cur ty fz hc _ hx => HF1.out c (Array.getElem?_eq_some_iff.1 hx).1 (by omega)⟩, by
                obtain ⟨D'', m1, m2, m3, m4⟩ := (show ∃ D'', MapS N K' bm D'' ((-hd - 1).toNat :: P) V1 ∧ D' <+: D'' ∧ vI yt ∈ D'' ∧ OrdD M D'' by first | exact HR2.out rfl | exact HR2.out trivial)
                refine ⟨⟨D'', m1, HD'.out.trans m2, m4, fun y hy2 hyn => ?_⟩, HRS1.out, fun c h1 h2 h3 => (HF1.out c (by have := HI.out.size; omega) h2).trans (HI.out.same c h1 h2 h3), by have := HI.out.size; omega, HB1.out⟩
                rw [List.map_append] at hy2
                rcases List.mem_append.1 hy2 with hy2 | hy2
                · exact m2.subset (HALL.out y hy2 hyn)
                · simp at hy2; subst hy2; exact m3⟩
          · gi_wp2
            refine ⟨(fun f hf => by cases hf), ?_⟩
            gi_wp2
            all_goals first
              | (exfalso; exact undef_bool (by assumption))
              | exact ⟨KeepsFrom.refl _ _, KpN.refl _ _ _, by
                  obtain ⟨D', h1, h2, h3, h4⟩ := HI.out.some_
                  refine ⟨⟨D', h1, h2, h3, fun y hy2 hyn => ?_⟩, HI.out.res, HI.out.same, HI.out.size, HI.out.bel⟩
                  rw [List.map_append] at hy2
                  rcases List.mem_append.1 hy2 with hy2 | hy2
                  · exact h4 y hy2 hyn
                  · simp at hy2; subst hy2; exact absurd hyn (by omega)⟩
        case done =>
          rintro Dm xs V hDm hxs hI hKd
          obtain ⟨D', m1, m2, m3, m4⟩ := hI.some_
          have hpr := map_pt_snd hxs
          have hall : ∀ u y, M (-hd - 1).toNat = some u → u.has y → y ∈ D' := fun u y hu hy => by
            have e : u = t := by have := HMX.out; rw [hu] at this; injection this
            subst e
            obtain ⟨z, hz, hzh⟩ := has_pre hy
            have e2 : vI z = y := by unfold vI; omega
            rw [← e2]
            exact m4 z (by rw [← hpr] at hz; exact hz) (by omega)
          obtain ⟨w9, hrun9, hm9, hg9⟩ := m1.finish HWF.out hneg HXP.out (by have := HK.out; omega)
          have hkeep : ∀ c, c < V.heap.size → c ≠ bm → w9.heap[c]? = V.heap[c]? := fun c hc hne => hg9.block c hc (fun e => hne (by cases e; rfl))
          have hvs := hI.size
          obtain ⟨v0, _⟩ := box1 ((hI.same b3 (by omega) (by omega) (by omega)).trans HX3.out)
          have hres9 := (hkeep br (by omega) (by omega)).trans hI.res
          have HM9 := Lib.hid hm9; have HR9 := Lib.hid hres9; have HALL := Lib.hid hall; have HI := Lib.hid hI; have HK9 := Lib.hid hkeep; have HM2 := Lib.hid m2; have HM3 := Lib.hid m3; have HKD := Lib.hid hKd; have HG9 := Lib.hid hg9
          have hDl := (Array.getElem?_eq_some_iff.1 hKd).1
          obtain ⟨q0, q1⟩ := box1 hres9
          have hqr := heap_lt hres9
          have hz9 := hg9.size
          clear hm9 hres9 hall hI hkeep m1 m2 m3 m4 hpr hxs hKd hg9
          go_wp2_with fail
          have hb9 : Below W0.heap.size W0 w9 := HI.out.bel.grown HG9.out HI.out.bel.size (fun c hc => by cases hc; omega)
          have hb9s := hb9.setCell (p := ⟨br, 0, none⟩) (by show W0.heap.size ≤ br; omega) (.bool false)
          refine retM_cell1 [Dm] (.bool false) br 4 (box1_set' HR9.out _ rfl) (marks1 (show w.heap.size ≤ Dm by omega) ((Below.heap_setCell _ _ _ _ (fun e => by have e' : Dm = br := e; rw [e', HI.out.res] at HKD; exact absurd HKD.out (by simp))).trans ((HK9.out Dm hDl (by omega)).trans HKD.out))) (by simp; omega) (fun w' q0 => by simp [results, Try.results158, go_sem, q0]) ?_
          intro w' hb'
          have hfin : ∀ c, c < w.heap.size → w'.heap[c]? = w9.heap[c]? := fun c hc => (hb'.block c hc).trans (Below.heap_setCell _ _ _ _ (by show c ≠ br; omega))
          refine ⟨false, rfl, (fun h => by cases h), (fun _ => ⟨D' ++ [(-hd - 1).toNat], HM9.out.carry (hfin bm (by omega)), HM2.out.trans (List.prefix_append _ _), by simp, HM3.out.snoc HALL.out⟩), fun c hc hne => ((hfin c hc).trans (HK9.out c (by omega) hne)).trans ((HI.out.same c (by omega) hne (by omega)).trans (HFR.out c hc hne)), ?_, hb9s.trans (hb'.mono (by omega))⟩
          have := hb'.size
          simp at this
          omega
        case stop =>
          rintro Dm c' pre V hDm hpre ⟨rfl, hX⟩ hKd
          have HXX := Lib.hid hX; have HKD := Lib.hid hKd
          have hvs := hX.size
          clear hX hKd hpre
          gi_wp2
          refine retM_cell1 [Dm] (.bool true) br 4 HXX.out.res (marks1 (show w.heap.size ≤ Dm by omega) HKD.out) (by omega) (fun w' q0 => by simp [results, Try.results158, go_sem, q0]) ?_
          intro w' hb'
          exact ⟨true, rfl, (fun _ => HXX.out.way), (fun h => by cases h), fun c hc hne => (hb'.block c hc).trans ((HXX.out.same c (by omega) hne (by omega)).trans (HFR.out c hc hne)), by have := hb'.size; omega, HXX.out.bel.trans (hb'.mono (by omega))⟩
      · have hlk : (Instr.lookup 163 (.map (some b)) (.int .i64 hd) true).run Try.prog w2 = .ok (.tuple #[.agg #[.int .i64 0, .slice none 0 0], .bool false]) w2 := hl2 w2 (HBM.out w2 SM2.out.bel)
        have HMX := Lib.hid hmx
        obtain ⟨bt, hbt⟩ : ∃ b, b = w2.heap.size := ⟨_, rfl⟩
        have S3 := (SM2.out.box (b := bt) hbt.symm #[.int .i64 0, .slice none 0 0] 38)
        obtain ⟨w9, hrun9, hm9, hg9⟩ := (S3.mapS 3).finish HWF.out hneg HXP.out (by have := HK.out; omega)
        have S4 := Lib.hid (S3.mapPutS 3 rfl hm9 hg9 HBB.out.2.2.2 (by simp only [fset, fsnoc, offs, offAll, Fct.box, and_true]; have h1 := HNE.out; have h2 := HLT.out; have h3 := HBR.out; refine ⟨h1.2.1, h1.1, h1.2.2, by omega, by omega⟩))
        have hsz3 : (w2.alloc (.cells #[.int .i64 0, .slice none 0 0] 38)).heap.size = bt + 1 := by simp [hbt]
        have hkeep : ∀ c, c < w2.heap.size → c ≠ bm → w9.heap[c]? = w2.heap[c]? := fun c hc hne => (hg9.block c (by omega) (fun e => hne (by cases e; rfl))).trans (Below.heap_alloc _ _ c hc)
        have HK9 := Lib.hid hkeep
        have hz9 := hg9.size
        obtain ⟨v0, _⟩ := S3.one 0
        obtain ⟨q0, q1⟩ := S4.out.one 4
        have hqr := S4.out.lt 4
        have hbrw : w.heap.size ≤ br ∧ br ≤ w.heap.size := by omega
        have HO2 := Lib.hid (OrdD.snoc HO.out (x := (-hd - 1).toNat) (fun u y hu _ => by rw [HMX.out] at hu; cases hu))
        rw [hsz3] at hz9
        rw [hbr] at q0 q1 hqr
        clear hl2 hmx S3 hm9 hg9 hkeep hsz3 hbt
        go_wp2_with fail
        rw [← hbr]
        refine retM_cell1 [] (.bool false) br 4 (box1_set' (S4.out.block 4) _ rfl) (Marks.nil w.heap.size _) (by simp; omega) (fun w' q0 => by simp [results, Try.results158, go_sem, q0]) ?_
        intro w' hb'
        have hn1 := HLT.out; have hn2 := HBB.out
        have hfin : ∀ c, c < w.heap.size → w'.heap[c]? = w9.heap[c]? := fun c hc => (hb'.block c hc).trans (Below.heap_setCell _ _ _ _ (by show c ≠ br; omega))
        refine ⟨false, rfl, (fun h => by cases h), (fun _ => ⟨D ++ [(-hd - 1).toNat], (S4.out.mapS 3).carry (hfin bm (by omega)), List.prefix_append _ _, by simp, HO2.out⟩), fun c hc hne => ((hfin c hc).trans (HK9.out c (by omega) hne)).trans (HG2.out c hc hne), ?_, (S4.out.bel.setCell (p := ⟨br, 0, none⟩) (by show W0.heap.size ≤ br; omega) _).trans (hb'.mono (by omega))⟩
        have := hb'.size
        simp at this
        omega
end Go.Proofs.Ytlhnfdjidjgfgaa
