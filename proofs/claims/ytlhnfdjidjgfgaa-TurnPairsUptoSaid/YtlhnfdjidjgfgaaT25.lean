/-
  Walks: the order of a tree's variables.
  Plain: the variables of nodes in the order of their first showing; rows where each tree stands once.
  Plain: the patterns of a claim, in the order of its nodes.
  Walks: tree.Get.
-/
import Derived.Test.YtlhnfdjidjgfgaaProg
import Derived.Test.YtlhnfdjidjgfgaaXd
import Derived.Test.YtlhnfdjidjgfgaaSt3
import Derived.Test.YtlhnfdjidjgfgaaXa
import Derived.Test.YtlhnfdjidjgfgaaXc
import Derived.Test.YtlhnfdjidjgfgaaBase
namespace Go.Proofs.Ytlhnfdjidjgfgaa
open Go.RowKit Go.Shelf
set_option linter.unusedVariables false
set_option maxHeartbeats 400000

/-- an integer -/
def intE : Elt Int where
  ty := 3
  n := 1
  is p w cs a := cs = [.int .i64 a]
  pos := by omega
  len := fun e => by rw [e]; rfl
  one := fun e u hu => by rw [e] at hu; simp at hu; subst hu; rfl
  keep := fun hk e => e
theorem Elt.Row.int {p : Nat → Prop} {w : World} {ao : Option Addr} {cs : List Int} (h : intE.Row p w ao cs) {i : Nat} (hi : i < cs.length) : ∃ b off, ao = some ⟨b, off, none⟩ ∧ p b ∧ w.cell? ⟨b, off + i, none⟩ = some (.int .i64 cs[i]) := by
  obtain ⟨b, off, c, e, hp, hc, rfl⟩ := h i cs[i] (List.getElem?_eq_getElem hi)
  exact ⟨b, off, e, hp, by have := hc 0 _ rfl; simpa [intE] using this⟩
theorem infoI : (Try.prog.info? 3).map (fun i => (i.zero, i.size, i.bytes)) = some (some (.int .i64 0), 1, 8) := by kernel_rfl

mutual
def T.order : T → List Int → List Int
  | .node h ks, had => if h < 0 then (if h ∈ had then had else had ++ [h]) else orderL ks had
def orderL : List T → List Int → List Int
  | [], had => had
  | t :: r, had => orderL r (t.order had)
end
theorem orderL_append : ∀ (a b : List T) (had : List Int), orderL (a ++ b) had = orderL b (orderL a had)
  | [], b, had => rfl
  | t :: r, b, had => by simp only [List.cons_append, orderL]; exact orderL_append r b _
theorem orderL_take {l : List T} {i : Nat} (h : i < l.length) (had : List Int) : orderL (l.take (i + 1)) had = (gK l i).order (orderL (l.take i) had) := by
  rw [take_gK h, orderL_append]; rfl
mutual
theorem T.order_length : ∀ (t : T) (had : List Int), (t.order had).length ≤ had.length + t.size
  | .node h ks, had => by
    simp only [T.order, T.size]
    split
    · split
      · omega
      · simp only [List.length_append, List.length_cons, List.length_nil]; omega
    · have := orderL_length ks had; omega
theorem orderL_length : ∀ (l : List T) (had : List Int), (orderL l had).length ≤ had.length + sizeL l
  | [], had => by simp [orderL, sizeL]
  | t :: r, had => by
    simp only [orderL, sizeL]
    have h1 := T.order_length t had
    have h2 := orderL_length r (t.order had)
    omega
end
/-- the second fact ahead of the first -/
theorem St.swap {w0 w : World} {f g : Fct} {l : List Fct} (S : St w0 w (f :: g :: l)) : St w0 w (g :: f :: l) := S.sub fun h hh => by simp at hh ⊢; rcases hh with rfl | rfl | hh <;> simp [*]
theorem St.drop2 {w0 w : World} {f g : Fct} {l : List Fct} (S : St w0 w (f :: g :: l)) : St w0 w (f :: l) := S.sub fun h hh => by simp at hh ⊢; rcases hh with rfl | hh <;> simp [*]
theorem Elt.Own.mono {α : Type} {E : Elt α} {p q : Nat → Prop} {B : Nat} {w : World} {o : Value} {xs : List α} (h : E.Own p B w o xs) (hpq : ∀ b, p b → q b) : E.Own q B w o xs := by
  obtain ⟨css, h1, h2, h3⟩ := h
  exact ⟨css, h1, h2, fun i cs x e1 e2 => E.keep (fun b hb _ => ⟨rfl, hpq b hb.1, hb.2⟩) (h3 i cs x e1 e2)⟩
def pF : Nat → Prop := fun _ => False

set_option maxRecDepth 100000 in
set_option maxHeartbeats 4000000 in
theorem order68 (t : T) : ∀ (p : Nat → Prop) (w0 w : World) (B : Nat) (r : List Fct) (o v : Value) (had : List Int), (∀ b, p b → b < w0.heap.size) → w0.heap.size ≤ B → B ≤ w.heap.size → TreeP p w0 v t → St w0 w (.owns intE B pF o had :: r) → (∀ b, (o.ownBlock = some b ∨ w.heap.size ≤ b) → offAll b r) → had.length + t.size ≤ 100000000 →
    Calls Try.prog 97 #[v, o] w fun e w' => ∃ o', e = .returned o' ∧ w.heap.size ≤ w'.heap.size ∧ (∀ b, o'.ownBlock = some b → o.ownBlock = some b ∨ w.heap.size ≤ b) ∧ St w0 w' (.owns intE B pF o' (t.order had) :: r) := by
  induction t using T.ind with
  | h t ih =>
  intro p w0 w B r o v had hp hB hBw ht S hoff hsz
  obtain ⟨ao, sp, rfl, hr, hml⟩ := ht.open
  have hml : t.kids.length ≤ 9223372036854775807 := hml
  have HR := Lib.hid hr; have IH := Lib.hid ih; have HP := Lib.hid hp; have HO := Lib.hid hoff
  have HW := Lib.hid S
  clear ht hr ih hp hoff
  obtain ⟨i3, gi, gz0, gz1, gz2⟩ := info_parts infoI
  obtain ⟨bx, hbx⟩ : ∃ b, b = w.heap.size := ⟨_, rfl⟩
  have S1 := (S.boxH hbx.symm #[.int .i64 t.head, .slice ao t.kids.length (t.kids.length + sp)] 38).swap
  have hown := S.ownlt intE 0
  have OL := Lib.hid hown
  have hsz1 : (w.alloc (.cells #[.int .i64 t.head, .slice ao t.kids.length (t.kids.length + sp)] 38)).heap.size = bx + 1 := by simp [hbx]
  clear hown S HW
  have HTE := Lib.hid (show t.order had = if t.head < 0 then (if t.head ∈ had then had else had ++ [t.head]) else orderL t.kids had by cases t; rfl)
  by_cases hneg : t.head < 0
  · have HTE := Lib.hid (show t.order had = if t.head ∈ had then had else had ++ [t.head] by rw [HTE.out, if_pos hneg])
    obtain ⟨oa, osp, rfl, _, hol⟩ := ((S1.owns intE 0).mono (q := fun _ => True) (fun b _ => trivial)).row (fun b _ => trivial)
    have hhl : had.length ≤ 100000000 := by omega
    go_enter Try.func97, Try.ntmps97
    go_wp2_with fail
    rw [← hbx]
    refine S1.genC (z := bx + 1) (by omega) ?_
    intro w1 z1 S
    have HBX := Lib.hid hbx
    clear S1 hbx hsz1
    go_loopw [5] (fun i wr => ∃ k : Nat, k ≤ had.length ∧ i = .int .i64 k ∧ (∀ (j : Nat) x, j < k → had[j]? = some x → x ≠ t.head) ∧ bx + 1 ≤ wr.heap.size ∧ St w0 wr (.owns intE B pF (.slice oa had.length (had.length + osp)) had :: .box bx #[.int .i64 t.head, .slice ao t.kids.length (t.kids.length + sp)] 38 :: r)) (fun i _ => had.length - (intOf i).toNat)
    case atStart => exact ⟨0, by omega, rfl, fun j f hj _ => by omega, z1, S⟩
    case round =>
      clear S
      obtain ⟨k, hk, rfl, hno, z2, S⟩ := hrel
      have HNO := Lib.hid hno
      clear hno
      obtain ⟨⟨x0, _⟩, _⟩ := S.two 1
      by_cases hlt : k < had.length
      · have hlti : (k : Int) < (had.length : Int) := by omega
        obtain ⟨oa', osp', e', hrow, _⟩ := ((S.owns intE 0).mono (q := fun _ => True) (fun b _ => trivial)).row (fun b _ => trivial)
        obtain ⟨rfl, _⟩ : oa = oa' ∧ had.length + osp = had.length + osp' := by simpa using e'
        obtain ⟨b, off, rfl, _, c0⟩ := hrow.int hlt
        clear hrow e'
        have r0 := cell_regrown x0; have r1 := cell_regrown c0
        go_wp2_with fail
        refine wp_region_quiet_below (by kernel_rfl) (by kernel_rfl) ?_
        repeat (go_big_quiet_step (fail))
        refine wpQuiet_nil ?_
        intro _ hw'
        obtain ⟨⟨dq, osq⟩, hw''⟩ := hw'
        subst hw''
        refine (S.regrown dq osq).genX (z := bx + 1) (Nat.le_trans z2 (below_regrown wr dq osq).size) ?_
        intro w2 z3 S2
        clear r0 r1 S x0 c0
        by_cases he : had[k] = t.head
        · have heb : (had[k] == t.head) = true := by simp [he]
          have HF := Lib.hid (show t.order had = had by rw [HTE.out, if_pos (by rw [← he]; exact List.getElem_mem hlt)])
          have SE := Lib.hid S2.drop2
          clear S2 he
          go_wp2_with fail
          go_ret
          exact ⟨_, rfl, by have := HBX.out; omega, fun b hb => .inl hb, by rw [HF.out]; exact SE.out⟩
        · have heb : (had[k] == t.head) = false := by simp [he]
          have HN := Lib.hid (show ∀ (j : Nat) x, j < k + 1 → had[j]? = some x → x ≠ t.head from fun j x hj hx => by
            rcases Nat.lt_succ_iff_lt_or_eq.1 hj with h3 | rfl
            · exact HNO.out j x h3 hx
            · rw [List.getElem?_eq_getElem hlt] at hx
              obtain rfl := Option.some.inj hx
              exact he)
          clear he
          go_wp2_with fail
          go_roundw
          case rel => exact ⟨k + 1, by omega, by go_num, HN.out, z3, S2⟩
          case measure => simp [intOf] <;> omega
      · obtain rfl : k = had.length := by omega
        have HF := Lib.hid (show t.order had = had ++ [t.head] by
          rw [HTE.out, if_neg]
          intro h
          obtain ⟨j, hj, e⟩ := List.getElem_of_mem h
          exact HNO.out j _ hj (List.getElem?_eq_getElem hj) e)
        go_wp2_with (at_builtin; refine wpList_app rfl (.tmp 24) (.tmp 27) 22 rfl intE S 0 rfl (x := t.head) (q := pF) (p' := pF) rfl Try.underlying22 gi gz0 gz1 gz2 rfl rfl rfl rfl ?c1 ?c2 ?c3 ?c4 ?c5 ?c6 ?c7 ?_)
        case c1 => unfold maxLen; omega
        case c2 => omega
        case c3 => have := HBX.out; omega
        case c4 => exact hB
        case c5 => intro b h1 h2 h3; exact ⟨by have := (OL.out b h1).2; have := HBX.out; simp only [Fct.box]; omega, HO.out b (.inl h1)⟩
        case c6 => intro b h; exact h.elim
        case c7 => intro b h; rcases h with h | h <;> exact h.elim
        intro gg cap w3 S3 hs3 hgg hat
        change St w0 w3 (.owns intE B pF (.slice (some ⟨gg, 0, none⟩) (had.length + 1) cap) (had ++ [t.head]) :: .box bx _ 38 :: r) at S3
        have SE := Lib.hid S3.drop2
        have HG := Lib.hid (S3.ownlt intE 0)
        clear S3
        go_wp2_with fail
        go_ret
        refine ⟨_, rfl, by have := HBX.out; omega, fun b hb => ?_, by rw [HF.out]; exact SE.out⟩
        obtain rfl : gg = b := by simpa [Value.ownBlock] using hb
        rcases hat with h | h
        · exact .inl h
        · right; have := HBX.out; omega
  · have HTE := Lib.hid (show t.order had = orderL t.kids had by rw [HTE.out, if_neg hneg])
    have HSZ := Lib.hid hsz
    clear hsz
    go_enter Try.func97, Try.ntmps97
    go_wp2_with fail
    rw [← hbx]
    refine S1.genC (z := bx + 1) (by omega) ?_
    intro w1 z1 S
    have HBX := Lib.hid hbx
    clear S1 hbx hsz1
    go_loopw [1, 6] (fun u i wr => ∃ k : Nat, k ≤ t.kids.length ∧ i = .int .i64 k ∧ (∀ b, u.ownBlock = some b → o.ownBlock = some b ∨ bx + 1 ≤ b) ∧ bx + 1 ≤ wr.heap.size ∧ St w0 wr (.owns intE B pF u (orderL (t.kids.take k) had) :: .box bx #[.int .i64 t.head, .slice ao t.kids.length (t.kids.length + sp)] 38 :: r)) (fun _ i _ => t.kids.length - (intOf i).toNat)
    case atStart => exact ⟨0, by omega, rfl, fun b hb => .inl hb, z1, S⟩
    case round =>
      clear S
      obtain ⟨k, hk, rfl, hob, z2, S⟩ := hrel
      have HOB := Lib.hid hob
      clear hob
      obtain ⟨⟨x0, _⟩, x1, _⟩ := S.two 1
      by_cases hlt : k < t.kids.length
      · have hlti : (k : Int) < (t.kids.length : Int) := by omega
        have HT := Lib.hid (orderL_take hlt had)
        obtain ⟨b, off, ka, sa, rfl, hpb, c0', c1', ht⟩ := HR.out k hlt
        have c0 := Below.cellOf S.bel c0'
        have c1 := Below.cellOf S.bel c1'
        have HTK := Lib.hid ht
        clear c0' c1' ht
        go_wp2_with fail
        refine (IH.out k hlt p w0 wr B _ u1 _ _ HP.out hB (by have := HBX.out; omega) HTK.out S (fun b' h => ?_) (by
          have h1 := HSZ.out; rw [T.size_eq] at h1
          have h2 := orderL_length (t.kids.take k) had
          have h3 := sizeL_take hlt
          have h4 := sizeL_take_le t.kids (k + 1)
          omega)).mono ?_
        · refine ⟨?_, HO.out b' ?_⟩
          · simp only [Fct.box]
            rcases h with h | h
            · rcases HOB.out b' h with h | h
              · have := (OL.out b' h).2; have := HBX.out; omega
              · omega
            · omega
          · rcases h with h | h
            · rcases HOB.out b' h with h | h
              · exact .inl h
              · right; have := HBX.out; omega
            · right; have := HBX.out; omega
        rintro e w3 ⟨o2, rfl, z3, ho2, S3⟩
        rw [← HT.out] at S3
        have HO2 := Lib.hid (show ∀ b, o2.ownBlock = some b → o.ownBlock = some b ∨ bx + 1 ≤ b from fun b hb => by
          rcases ho2 b hb with h | h
          · exact HOB.out b h
          · right; omega)
        clear S ho2 x0 x1 c0 c1
        go_wp2_with fail
        go_roundw
        case rel => exact ⟨k + 1, by omega, by go_num, HO2.out, by omega, S3⟩
        case measure => simp [intOf] <;> omega
      · obtain rfl : k = t.kids.length := by omega
        rw [List.take_length] at S
        have SE := Lib.hid S.drop2
        clear S
        go_wp2_with fail
        go_ret
        exact ⟨_, rfl, by have := HBX.out; omega, fun b hb => (by rcases HOB.out b hb with h | h; exact .inl h; right; have := HBX.out; omega), by rw [HTE.out]; exact SE.out⟩
end Go.Proofs.Ytlhnfdjidjgfgaa
namespace Go.Proofs.Ytlhnfdjidjgfgaa
open Go.RowKit Go.Shelf
set_option linter.unusedVariables false

end Go.Proofs.Ytlhnfdjidjgfgaa
namespace Go.Proofs.Ytlhnfdjidjgfgaa
open Go.RowKit Go.Shelf
set_option linter.unusedVariables false

theorem sizeL_elem {ts : List T} {i : Nat} (h : i < ts.length) : (gK ts i).size ≤ sizeL ts := by
  have h1 := sizeL_take h
  have h2 := sizeL_take_le ts (i + 1)
  omega
theorem pre_all {t : T} : ∀ {y : T}, y ∈ t.pre → (∀ z ∈ y.pre, z ∈ t.pre) ∧ y.size ≤ t.size ∧ y.deep ≤ t.deep := by
  induction t using T.ind with
  | h t ih =>
    intro y hy
    rw [T.pre_eq] at hy
    rcases List.mem_cons.1 hy with rfl | hy
    · exact ⟨fun z hz => hz, Nat.le_refl _, Nat.le_refl _⟩
    · have key : ∀ l : List T, y ∈ preL l → ∃ i, i < l.length ∧ y ∈ (gK l i).pre := by
        intro l
        induction l with
        | nil => intro h; cases h
        | cons a r ihr =>
          intro h
          rw [preL] at h
          rcases List.mem_append.1 h with h | h
          · exact ⟨0, by simp, h⟩
          · obtain ⟨i, hi, h⟩ := ihr h
            exact ⟨i + 1, by simp; omega, h⟩
      obtain ⟨i, hi, h⟩ := key t.kids hy
      obtain ⟨h1, h2, h3⟩ := ih i hi h
      refine ⟨fun z hz => by rw [T.pre_eq]; exact List.mem_cons_of_mem _ (kid_pre_mem hi (h1 z hz)), ?_, ?_⟩
      · have h4 := sizeL_elem hi
        have h5 := T.size_eq t; omega
      · have h4 := kid_deep hi
        have h5 := T.deep_eq t; omega
end Go.Proofs.Ytlhnfdjidjgfgaa
namespace Go.Proofs.Ytlhnfdjidjgfgaa
open Go.RowKit Go.Shelf
set_option linter.unusedVariables false
set_option maxHeartbeats 400000

/-- down a place: the tree there, -1; or none, and where the place fails -/
def T.get : T → List Int → Int → T × Int
  | t, [], _ => (t, -1)
  | t, k :: r, i => if k < 1 ∨ (t.kids.length : Int) < k then (zeroT, i) else (gK t.kids (k - 1).toNat).get r (i + 1)
theorem drop_gI {l : List Int} {i : Nat} (h : i < l.length) : l.drop i = gI l i :: l.drop (i + 1) := by rw [List.drop_eq_getElem_cons h, gI_get h]

end Go.Proofs.Ytlhnfdjidjgfgaa
