/-
  Walks: Renamer.Term.
-/
import Derived.Test.YtidgnbdlfngeaaaDoorProg
import Derived.Test.YtidgnbdlfngeaaaDoorM1
import Derived.Deep.RegionLaw
import Derived.RegionTactic
namespace Go.Proofs.YtidgnbdlfngeaaaDoor
open Go.RowKit Go.Shelf Go.Maps
set_option linter.unusedVariables false
set_option maxHeartbeats 400000

/-- all blocks of w but b are as they were -/
def Fct.kept (w : World) (b : Nat) : Fct :=
  ⟨fun c => c < w.heap.size ∧ c ≠ b, fun W => ∀ c, c < w.heap.size → c ≠ b → W.heap[c]? = w.heap[c]?, fun W W' h hh c h1 h2 => by
    by_cases hc : c < W.heap.size
    · exact (h c ⟨h1, h2⟩ hc).trans (hh c h1 h2)
    · have := hh c h1 h2
      rw [Array.getElem?_eq_none (by omega), eq_comm, Array.getElem?_eq_none_iff] at this
      omega⟩
theorem St.kept {w0 w : World} {l : List Fct} (S : St w0 w l) (i : Nat) {W : World} {b : Nat} (h : Fct.at l i = Fct.kept W b := by rfl) : ∀ c, c < W.heap.size → c ≠ b → w.heap[c]? = W.heap[c]? := by
  have := S.2 i
  rw [h] at this; exact this
theorem St.madeM {P : Program} {n : Nat} {a : Array Value} {w0 w : World} {l : List Fct} (S : St w0 w l) (i : Nat) {b : Nat} {L M : List Int} {R : T} (hi : Fct.at l i = .mapI b L) (hoff : offs b i l)
    (h : Calls P n a w fun e w' => ∃ u, e = .returned u ∧ TreeP (fun c => w.heap.size ≤ c) w' u R ∧ MapI b M w' ∧ (∀ c, c < w.heap.size → c ≠ b → w'.heap[c]? = w.heap[c]?) ∧ w.heap.size ≤ w'.heap.size ∧ Below w0.heap.size w0 w') :
    Calls P n a w fun e w' => ∃ k sp, e = .returned (.agg #[.int .i64 R.head, .slice k R.kids.length (R.kids.length + sp)]) ∧ w.heap.size ≤ w'.heap.size ∧
      St w0 w' (fsnoc (fset l i (.mapI b M)) (.tree w.heap.size w'.heap.size (.agg #[.int .i64 R.head, .slice k R.kids.length (R.kids.length + sp)]) R)) :=
  h.mono fun e w' ⟨u, h1, h2, h3, h4, h5, h6⟩ => by
    obtain ⟨k, sp, rfl⟩ := h2.at.form
    have S2 : St w0 w' (fset l i (.mapI b M)) := by
      refine ⟨h6, fun j => ?_⟩
      by_cases hj : j = i
      · subst hj
        rcases at_fset_same (.mapI b M) l j with h | h
        · rw [h]; exact h3
        · rw [h]; trivial
      · rw [at_fset_other _ _ _ _ hj]
        exact (Fct.at l j).stable w w' (fun c hc hl => h4 c hl (fun e => offs_at hoff j hj (e ▸ hc))) (S.2 j)
    exact ⟨k, sp, h1, h5, S2.add (.tree _ _ _ _) (h2.upto (w0 := w0))⟩
theorem MapI.look {b : Nat} {L : List Int} {w : World} (h : MapI b L w) : ∃ D : DataW Unit, w.ownsMap Tryd.prog 3 (plainElem Tryd.prog 3) b L.length D ∧ Hid (Maps.size D = L.length) ∧ (∀ z c : Int, D.atKey (.int .i64 z) (.lit (.int .i64 0)) = .lit (.int .i64 c) → c = numL L z) ∧
    ∀ (z : Int) (w1 : World), z ∉ L → w1.ownsMap Tryd.prog 3 (plainElem Tryd.prog 3) b (L.length + 1) (D.put (.int .i64 z) (.lit (.int .i64 (-(L.length : Int) - 1)))) → MapI b (L ++ [z]) w1 := by
  obtain ⟨D, h1, h2, h3, h4, h5⟩ := h
  exact ⟨D, h1, h3, fun z c hc => by rw [h4] at hc; injection hc with hc; injection hc with _ hc; exact hc.symm, fun z w1 hz ho => MapI.put hz h2 h3 h4 h5 ho⟩
def lowT (t : T) : Prop := ∀ x ∈ t.pre, -1000 ≤ x.head
theorem lowT.self {t : T} (h : lowT t) : -1000 ≤ t.head := h t (by rw [T.pre_eq]; simp)
theorem preL_mem {ks : List T} {i : Nat} (hi : i < ks.length) {x : T} (hx : x ∈ (gK ks i).pre) : x ∈ preL ks := by
  have h1 : x ∈ preL (ks.take (i + 1)) := by rw [preL_take hi]; exact List.mem_append_right _ hx
  exact (preL_take_prefix ks (i + 1)).subset h1
theorem lowT.kid {t : T} (h : lowT t) {i : Nat} (hi : i < t.kids.length) : lowT (gK t.kids i) := fun x hx => h x (by rw [T.pre_eq]; exact List.mem_cons_of_mem _ (preL_mem hi hx))
theorem wf64 {z : Int} (h1 : -9223372036854775808 ≤ z) (h2 : z ≤ 9223372036854775807) : (Lit.int .i64 z).wf = true := by
  simp only [Lit.wf, IntKind.min, IntKind.max, IntKind.signed, IntKind.bits, Bool.and_eq_true, decide_eq_true_eq, if_true]
  omega

set_option maxRecDepth 100000 in
set_option maxHeartbeats 4000000 in
theorem term105 (t : T) : ∀ (p : Nat → Prop) (w0 w : World) (b : Nat) (v : Value) (L : List Int), (∀ c, p c → c < w0.heap.size) → w0.heap.size ≤ b → TreeP p w0 v t → St w0 w [.mapI b L] → lowT t → L.length + t.size ≤ 100000000 →
    Calls Tryd.prog 42 #[.map (some b), v] w fun e w' => ∃ u, e = .returned u ∧ TreeP (fun c => w.heap.size ≤ c) w' u (t.ren (t.order L)) ∧ MapI b (t.order L) w' ∧ (∀ c, c < w.heap.size → c ≠ b → w'.heap[c]? = w.heap[c]?) ∧ w.heap.size ≤ w'.heap.size ∧ Below w0.heap.size w0 w' := by
  induction t using T.ind with
  | h t ih =>
  intro p w0 w b v L hp hbw ht S hlow hsz
  obtain ⟨ao, sp, rfl, hr, hml⟩ := ht.open
  have hml : t.kids.length ≤ 9223372036854775807 := hml
  have HR := Lib.hid hr; have IH := Lib.hid ih; have HP := Lib.hid hp; have HLOW := Lib.hid hlow
  have HB := Lib.hid (show b < w.heap.size from (S.mapI 0).lt)
  have HBW := Lib.hid hbw
  have HTE := Lib.hid (show t.order L = if t.head < 0 then (if t.head ∈ L then L else L ++ [t.head]) else orderL t.kids L by cases t; rfl)
  clear ht hr ih hp
  obtain ⟨bx, hbx⟩ : ∃ b, b = w.heap.size := ⟨_, rfl⟩
  have S0 := S.add (.kept w b) (fun c _ _ => rfl)
  have S1 := (S0.box hbx.symm #[.int .i64 t.head, .slice ao t.kids.length (t.kids.length + sp)] 45).box (b := bx + 1) (by simp [hbx]) #[.int .i64 0, .slice none 0 0] 45
  have hsz1 : ((w.alloc (.cells #[.int .i64 t.head, .slice ao t.kids.length (t.kids.length + sp)] 45)).alloc (.cells #[.int .i64 0, .slice none 0 0] 45)).heap.size = bx + 2 := by simp [hbx]
  clear S
  by_cases hneg : t.head < 0
  · subst hbx
    obtain ⟨D, hown, HD, HAT, HPUT⟩ := (S1.mapI 0).look
    have HPUT := Lib.hid HPUT
    have hkey : keyOf Tryd.prog 3 (.int .i64 t.head) = some (.int .i64 t.head) := keyOf_int_mk Tryd.underlying3 (wf64 (by have := hlow.self; omega) (by omega))
    have HRN := Lib.hid (T.ren_neg (l := t.order L) hneg)
    have hLl : L.length ≤ 100000000 := by omega
    clear hlow
    by_cases hm : t.head ∈ L
    · have hnz : numL L t.head ≠ 0 := fun e => (numL_zero L t.head).1 e hm
      have hnb : (numL L t.head == 0) = false := by simp [hnz]
      have HO := Lib.hid (show t.order L = L by rw [HTE.out, if_pos hneg, if_pos hm])
      clear hnz hm
      go_enter Tryd.func42, Tryd.ntmps42
      go_wp2_with (first
        | (at_len; refine wpList_len_own _ rfl _ 87 rfl 3 3 Tryd.underlying87 _ b L.length D rfl hown ?_; rw [show Maps.size D = L.length from HD])
        | (at_lookup; refine wpList_lookup_own_int _ rfl _ _ 87 rfl 3 3 .i64 law3 Tryd.underlying87 Tryd.underlying3 (zero3 _) b L.length D rfl hown _ _ rfl hkey ?_; intro c hat hwc; obtain rfl := HAT _ _ hat; clear hat hwc))
      have SF := (S0.box rfl #[.int .i64 t.head, .slice ao t.kids.length (t.kids.length + sp)] 45).box (b := w.heap.size + 1) (by simp) #[.int .i64 (numL L t.head), .slice none 0 0] 45
      refine ret_box2 (.int .i64 (numL L t.head)) (.slice none 0 0) (w.heap.size + 1) 45 (SF.block 3) (fun w' q0 q1 => by simp [results, Tryd.results42, go_sem, q0, q1]) rfl ?_
      refine ⟨_, rfl, ?_, by rw [HO.out]; exact SF.mapI 0, SF.kept 1, by simp; omega, SF.bel⟩
      rw [HRN.out, HO.out]
      exact TreeP.leaf _ _ _
    · have hz : numL L t.head = 0 := (numL_zero L t.head).2 hm
      have HZ := Lib.hid hz
      have HM := Lib.hid hm
      have HNS := Lib.hid (show numL (L ++ [t.head]) t.head = -(L.length : Int) - 1 by rw [numL_snoc, if_pos rfl])
      have HO := Lib.hid (show t.order L = L ++ [t.head] by rw [HTE.out, if_pos hneg, if_neg hm])
      have hwv : (Lit.int .i64 (-(L.length : Int) - 1)).wf = true := wf64 (by omega) (by omega)
      clear hz hm
      go_enter Tryd.func42, Tryd.ntmps42
      go_wp2_with (first
        | (at_len; refine wpList_len_own _ rfl _ 87 rfl 3 3 Tryd.underlying87 _ b L.length D rfl hown ?_; rw [show Maps.size D = L.length from HD])
        | (at_lookup; have _g := hown2; refine wpList_lookup_own_int _ rfl _ _ 87 rfl 3 3 .i64 law3 Tryd.underlying87 Tryd.underlying3 (zero3 _) b (L ++ [t.head]).length D2 rfl hown2 _ _ rfl hkey ?_; intro c hat hwc; obtain rfl := HAT2 _ _ hat; clear hat hwc; rw [HNS.out])
        | (at_lookup; refine wpList_lookup_own_int _ rfl _ _ 87 rfl 3 3 .i64 law3 Tryd.underlying87 Tryd.underlying3 (zero3 _) b L.length D rfl hown _ _ rfl hkey ?_; intro c hat hwc; obtain rfl := HAT _ _ hat; clear hat hwc; rw [HZ.out])
        | (at_mapUpdate; refine wpList_mapUpdate_own _ rfl _ _ _ 87 rfl 3 3 law3 Tryd.underlying87 _ b L.length D rfl hown (by unfold maxLen; omega) _ _ _ rfl rfl hkey _ [] (plainElem_int Tryd.underlying3 hwv) ?_; intro w1 hown1 hgrow1; have S2 := S1.mapPut 0 rfl (HPUT.out _ _ HM.out hown1) hgrow1 hbw (by simp only [fsnoc, offs, offAll, Fct.box, Fct.kept, and_true]; have := HB.out; omega); obtain ⟨D2, hown2, HD2, HAT2, _⟩ := (S2.mapI 0).look; obtain ⟨⟨x0, _⟩, x1, _⟩ := S2.two 2; obtain ⟨⟨y0, y1⟩, y2, y3⟩ := S2.two 3; have l3 := S2.lt 3; have hz1 := hgrow1.size))
      have SF := S2.set2 3 rfl (.int .i64 (-(L.length : Int) - 1)) (.slice none 0 0) (by have := HBW.out; have := HB.out; omega) (by simp only [fset, fsnoc, offs, offAll, Fct.box, Fct.kept, Fct.mapI, and_true]; have := HB.out; omega)
      refine ret_box2 (.int .i64 (-(L.length : Int) - 1)) (.slice none 0 0) (w.heap.size + 1) 45 (SF.block 3) (fun w' q0 q1 => by simp [results, Tryd.results42, go_sem, q0, q1]) rfl ?_
      refine ⟨_, rfl, ?_, by rw [HO.out]; exact SF.mapI 0, SF.kept 1, by simp at hz1 ⊢; omega, SF.bel⟩
      rw [HRN.out, HO.out, HNS.out]
      exact TreeP.leaf _ _ _
  · obtain ⟨i44, gi, gz0, gz1, gz2⟩ := info_parts info44
    have HSZ := Lib.hid hsz
    have HO := Lib.hid (show t.order L = orderL t.kids L by rw [HTE.out, if_neg hneg])
    have HRN := Lib.hid (T.ren_pos (l := t.order L) hneg)
    have S2 := S1.box (b := bx + 2) hsz1 #[.int .i64 t.head, .slice none 0 0] 45
    have S3 := S2.add (.owns treeE (bx + 3) (fun c => bx + 3 ≤ c) (.slice none 0 0) []) (Elt.Own.nil _ _ _ _)
    have hsz3 : (((w.alloc (.cells #[.int .i64 t.head, .slice ao t.kids.length (t.kids.length + sp)] 45)).alloc (.cells #[.int .i64 0, .slice none 0 0] 45)).alloc (.cells #[.int .i64 t.head, .slice none 0 0] 45)).heap.size = bx + 3 := by simp [hbx]
    clear S0 S1 S2 hsz1 hlow hsz
    go_enter Tryd.func42, Tryd.ntmps42
    go_wp2_with fail
    rw [← hbx]
    refine S3.genC (z := bx + 3) (by omega) ?_
    intro w1 z1 S
    have HBX := Lib.hid hbx
    clear S3 hbx hsz3
    go_loopw [36] (fun i wr => ∃ (k : Nat) (o : Value), k ≤ t.kids.length ∧ i = .int .i64 k ∧ bx + 3 ≤ wr.heap.size ∧ St w0 wr [.mapI b (orderL (t.kids.take k) L), .kept w b, .box bx #[.int .i64 t.head, .slice ao t.kids.length (t.kids.length + sp)] 45, .box (bx + 1) #[.int .i64 0, .slice none 0 0] 45, .box (bx + 2) #[.int .i64 t.head, o] 45,
      .owns treeE (bx + 3) (fun c => bx + 3 ≤ c) o (renL (orderL (t.kids.take k) L) (t.kids.take k))]) (fun i _ => t.kids.length - (intOf i).toNat)
    case atStart => exact ⟨0, _, by omega, rfl, z1, S⟩
    case round =>
      clear S
      obtain ⟨k, o, hk, rfl, z3, S⟩ := hrel
      by_cases hlt : k < t.kids.length
      · have hlti : (k : Int) < (t.kids.length : Int) := by omega
        obtain ⟨bk, hbk⟩ : ∃ b, b = wr.heap.size := ⟨_, rfl⟩
        obtain ⟨bb, off, ko, ksp, rfl, hpb, c0', c1', c2⟩ := HR.out k hlt
        have c0 := Below.cellOf S.bel c0'
        have c1 := Below.cellOf S.bel c1'
        have hkm : k ≤ 100000000 := by have h1 := length_le_sizeL t.kids; have h2 := HSZ.out; rw [T.size_eq] at h2; omega
        have HKS := Lib.hid (show (orderL (t.kids.take k) L).length + (gK t.kids k).size ≤ 100000000 by
          have h1 := HSZ.out; rw [T.size_eq] at h1
          have h2 := orderL_length (t.kids.take k) L
          have h3 := sizeL_take hlt
          have h4 := sizeL_take_le t.kids (k + 1)
          omega)
        have HTT := Lib.hid (renL_orderL_take hlt L)
        have HOT := Lib.hid (orderL_take hlt L)
        have hlk : (renL (orderL (t.kids.take k) L) (t.kids.take k)).length = k := by rw [renL_length]; simp; omega
        have HTK := Lib.hid c2
        have HOW := Lib.hid (show ∀ c, o.ownBlock = some c → bx + 3 ≤ c ∧ c < bk from fun c hc => by rw [hbk]; exact S.ownlt treeE 5 rfl c hc)
        have SK := S.box hbk.symm #[.int .i64 (gK t.kids k).head, .slice ko (gK t.kids k).kids.length ((gK t.kids k).kids.length + ksp)] 45
        obtain ⟨M, hM⟩ : ∃ M, M = orderL (t.kids.take k) L := ⟨_, rfl⟩
        obtain ⟨RL, hRL⟩ : ∃ RL, RL = renL M (t.kids.take k) := ⟨_, rfl⟩
        rw [← hM] at HKS HTT HOT hlk SK
        rw [← hRL] at HTT hlk SK
        clear c0' c1' S hM hRL c2
        go_wp2_with fail
        rw [← hbk]
        refine SK.genC (z := bk + 1) (by simp [hbk]) ?_
        intro w2 z4 S
        have HBK := Lib.hid (show bx + 3 ≤ bk by omega)
        clear SK hbk c0 c1
        have SD := Lib.hid S.drew
        obtain ⟨⟨y0, _⟩, y1, _⟩ := SD.out.two 4
        obtain ⟨⟨v0, _⟩, v1, _⟩ := SD.out.two 6
        have hzd : w2.drew.heap.size = w2.heap.size := rfl
        clear S
        go_region_law (first
          | (have _g := S5; refine step_app (by rfl) (.tmp 41) (.tmp 45) 43 (by rfl) treeE S5 5 rfl (x := (gK t.kids k).ren ((gK t.kids k).order M)) (q := fun b => w2.heap.size ≤ b ∧ b < w4.heap.size) (p' := fun b => bx + 3 ≤ b) ⟨ka2, sa2, rfl, S5.tree 7⟩ Tryd.underlying43 gi gz0 gz1 gz2 (by rfl) (by rfl) (by rfl) (by rfl) (by unfold maxLen; omega) (by omega) (by have := HBK.out; omega) (by have := HBW.out; have := HB.out; have := HBX.out; omega)
              (fun bb h1 h2 h3 => by have h4 := (HOW.out bb h1).2; simp only [fset, fsnoc, offs, offAll, Fct.box, Fct.tree, Fct.mapI, Fct.kept, and_true]; have := HB.out; have := HBX.out; omega) (fun bb h1 h2 => by have h4 : bb < w2.heap.size := (SD.out.ownlt treeE 5 rfl bb h2).2; have h5 := h1.1; omega) (fun bb h1 => by have h6 := HBK.out; rcases h1 with h1 | h1; exact h1; have h5 := h1.1; omega) ?_; intro gg cap w5 S6 hs6 hgg hat; obtain ⟨⟨u0, u1⟩, u2, u3⟩ := S6.two 4; have hl6 := S6.lt 4)
          | (go_simp; go_at_call 42; refine (SD.out.madeM 0 rfl (by simp only [fsnoc, offs, offAll, Fct.box, Fct.kept, Fct.owns, and_true]; have := HB.out; have := HBX.out; have := HBK.out; refine ⟨by omega, by omega, by omega, by omega, fun e => ?_, by omega⟩; rcases e with e | e; have h8 := (SD.out.ownlt treeE 5 rfl b e).1; omega; omega) (IH.out k hlt p w0 w2.drew b _ M HP.out HBW.out HTK.out (SD.out.pick [0]) (HLOW.out.kid hlt) HKS.out)).mono ?_; rintro e w4 ⟨ka2, sa2, rfl, hz2, S5⟩; have hz2 : w2.heap.size ≤ w4.heap.size := hz2; have hlo2 := S5.lt 4; have hlo0 := S5.lt 6; obtain ⟨⟨z0, _⟩, z1', _⟩ := S5.two 4; obtain ⟨⟨q0, _⟩, q1, _⟩ := S5.two 6))
        all_goals
          rw [hlk] at S6
          have S7 := (S6.set21 4 rfl (.slice (some ⟨gg, 0, none⟩) (k + 1) cap) (by have := HBW.out; have := HB.out; have := HBX.out; omega) (by
            have h8 := (S6.ownlt treeE 5 rfl gg rfl).1
            simp only [fset, fsnoc, offs, offAll, Fct.box, Fct.tree, Fct.mapI, Fct.kept, Fct.owns, and_true]; have := HB.out; have := HBX.out; have := HBK.out
            refine ⟨by omega, by omega, by omega, by omega, fun e => ?_, by omega, by omega⟩
            rcases e with e | e
            · have e' : gg = bx + 2 := by simpa [Value.ownBlock] using e
              omega
            · omega)).pick [0, 1, 2, 3, 4, 5]
          have S8 := Lib.hid (show St w0 (w5.setCell ⟨bx + 2, 1, none⟩ (.slice (some ⟨gg, 0, none⟩) (k + 1) cap)) [.mapI b (orderL (t.kids.take (k + 1)) L), .kept w b, .box bx #[.int .i64 t.head, .slice (some ⟨bb, off, none⟩) t.kids.length (t.kids.length + sp)] 45, .box (bx + 1) #[.int .i64 0, .slice none 0 0] 45, .box (bx + 2) #[.int .i64 t.head, .slice (some ⟨gg, 0, none⟩) (k + 1) cap] 45,
            .owns treeE (bx + 3) (fun c => bx + 3 ≤ c) (.slice (some ⟨gg, 0, none⟩) (k + 1) cap) (renL (orderL (t.kids.take (k + 1)) L) (t.kids.take (k + 1)))] by rw [HTT.out, HOT.out]; exact S7)
          clear S7 S6 S5 y0 y1 v0 v1 z0 z1' q0 q1
          go_wp2_with fail
          go_roundw
          case rel => exact ⟨k + 1, _, by omega, by go_num, by have := HBK.out; simp; omega, S8.out⟩
          case measure => simp [intOf] <;> omega
      · obtain rfl : k = t.kids.length := by omega
        rw [List.take_length, ← HO.out] at S
        have HNL := Lib.hid (renL_length (t.order L) t.kids)
        obtain ⟨ro, rsp, rfl, hrow, hml2⟩ := (S.owns treeE 5).row (fun b h => h)
        have HT := Lib.hid hrow
        have SB := Lib.hid S
        obtain ⟨⟨y0, y1⟩, y2, y3⟩ := S.two 3
        obtain ⟨⟨v0, _⟩, v1, _⟩ := S.two 4
        have hl1 := S.lt 3
        clear hrow S
        go_wp2_with fail
        refine ret_box2 (.int .i64 t.head) (.slice ro (renL (t.order L) t.kids).length ((renL (t.order L) t.kids).length + rsp)) (bx + 1) 45 (box2_set (SB.out.block 3) _ _) (fun w' q0 q1 => by simp [results, Tryd.results42, go_sem, q0, q1]) rfl ?_
        have hb1 := HB.out; have hx1 := HBX.out
        have SF := SB.out.set2 3 rfl (.int .i64 t.head) (.slice ro (renL (t.order L) t.kids).length ((renL (t.order L) t.kids).length + rsp)) (by omega) (by
          simp only [offs, offAll, Fct.box, Fct.mapI, Fct.kept, Fct.owns, and_true]
          refine ⟨by omega, by omega, by omega, by omega, fun e => ?_⟩
          rcases e with e | e
          · have := (SB.out.ownlt treeE 5 rfl _ e).1; omega
          · omega)
        refine ⟨_, rfl, ?_, SF.mapI 0, SF.kept 1, by simp; omega, SF.bel⟩
        rw [HRN.out]
        have h8 := TreeP.close (h := t.head) (sp := rsp) HT.out.rowP hml2
        exact ((h8.setCell (a := ⟨bx + 1, 0, none⟩) (by simp) _).setCell (a := ⟨bx + 1, 1, none⟩) (by simp) _).mono (fun b h _ => by omega)
end Go.Proofs.YtidgnbdlfngeaaaDoor
