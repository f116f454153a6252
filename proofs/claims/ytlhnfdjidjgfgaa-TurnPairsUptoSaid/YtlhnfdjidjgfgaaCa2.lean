/-
  Walk: the document's Places: the positions of a term's nodes but its variables.
-/
import Derived.Test.YtlhnfdjidjgfgaaProg
import Derived.Test.YtlhnfdjidjgfgaaCa
import Derived.Test.YtlhnfdjidjgfgaaNk3
import Derived.Test.YtlhnfdjidjgfgaaM2
import Derived.Test.YtlhnfdjidjgfgaaG4
import Derived.Deep.CutBlock
import Derived.Deep.DeepCutAuto
import Derived.RegionTactic
namespace Go.Proofs.Ytlhnfdjidjgfgaa
open Go.RowKit Go.Shelf
set_option linter.unusedVariables false
set_option maxHeartbeats 400000

theorem infoP22 : (Try.prog.info? 22).map (fun i => (i.zero, i.size, i.bytes)) = some (some (.slice none 0 0), 1, 24) := by kernel_rfl
/-- the positions of what is no variable -/
def plcs (l : List (List Int × T)) : List (List Int) := (l.filter fun x => decide (¬ x.2.head < 0)).map (·.1)
theorem plcs_append (a b : List (List Int × T)) : plcs (a ++ b) = plcs a ++ plcs b := by unfold plcs; rw [List.filter_append, List.map_append]
theorem plcs_len (t : T) (p : List Int) : (plcs (t.preP p)).length ≤ t.size := by
  unfold plcs
  rw [List.length_map]
  have := List.length_filter_le (fun x : List Int × T => decide (¬ x.2.head < 0)) (t.preP p)
  rw [preP_length] at this
  exact this
theorem plcs_lenL (l : List (List Int × T)) : (plcs l).length ≤ l.length := by
  unfold plcs
  rw [List.length_map]
  exact List.length_filter_le _ _
theorem intOwn {p q : Nat → Prop} {B : Nat} {w : World} {o : Value} {xs : List Int} (h : intE.Own p B w o xs) : intE.Own q B w o xs := by
  obtain ⟨css, h1, h2, h3⟩ := h
  exact ⟨css, h1, h2, fun i cs x e1 e2 => h3 i cs x e1 e2⟩
def PlacesP (p : Nat → Prop) (t : T) (at_ : List Int) (w : World) (e : Ending) (w' : World) : Prop :=
  ∃ ro rsp, e = .returned (.slice ro (plcs (t.preP at_)).length ((plcs (t.preP at_)).length + rsp)) ∧ intsE.Row (fun b => p b ∨ w.heap.size ≤ b) w' ro (plcs (t.preP at_)) ∧ Below w.heap.size w w'

set_option maxRecDepth 100000 in
set_option maxHeartbeats 8000000 in
theorem places102 (t : T) : ∀ (p : Nat → Prop) (at_ : List Int) (v : Value) (ao : Option Addr) (n cap : Nat) (w : World), (∀ b, p b → b < w.heap.size) → TreeAt w v t → intE.Row p w ao at_ → (∀ x ∈ t.pre, x.head < 0 → x.kids = []) → n = at_.length → n ≤ cap → t.size ≤ 100000 → at_.length + t.deep ≤ 100000 →
    Calls Try.prog 102 #[v, .slice ao n cap] w (PlacesP p t at_ w) := by
  induction t using T.ind with
  | h t ih =>
  intro p at_ v ao n cap w hp ht hat hvk hn hcap hsz hdp
  subst hn
  obtain ⟨asp, rfl⟩ : ∃ asp, cap = at_.length + asp := ⟨cap - at_.length, by omega⟩
  obtain ⟨ko, ksp, rfl, hr, hml⟩ := ht.open
  have hml : t.kids.length ≤ 9223372036854775807 := hml
  obtain ⟨i3, gi, gz0, gz1, gz2⟩ := info_parts info3
  obtain ⟨iI, gI, hz0, hz1, hz2⟩ := info_parts infoP22
  obtain ⟨bx, hbx⟩ : ∃ b, b = w.heap.size := ⟨_, rfl⟩
  have S1 := (St.start w).box hbx.symm #[.int .i64 t.head, .slice ko t.kids.length (t.kids.length + ksp)] 38
  have HR := Lib.hid hr; have HAT := Lib.hid hat; have HP := Lib.hid hp
  have HKM := Lib.hid (show t.kids.length ≤ 100000 by have := length_le_sizeL t.kids; have := T.size_eq t; omega)
  have HTS := Lib.hid (T.size_eq t); have HTD := Lib.hid (T.deep_eq t); have HSZ := Lib.hid hsz; have HDP := Lib.hid hdp
  obtain ⟨⟨x0, _⟩, x1, _⟩ := S1.two 0
  by_cases hneg : t.head < 0
  · have hk0 := hvk t (by rw [T.pre_eq]; exact List.mem_cons_self ..) hneg
    have HE := Lib.hid (show plcs (t.preP at_) = [] by rw [T.preP_eq, hk0, prePL]; simp [plcs, hneg])
    have SB := Lib.hid S1
    clear S1 ih hat hr hp hvk hk0 ht hsz hdp
    go_enter Try.func102, Try.ntmps102
    go_wp2_with fail
    go_ret
    exact ⟨none, 0, by rw [HE.out]; rfl, by rw [HE.out]; exact Elt.Row.nil, SB.out.bel⟩
  have IH := Lib.hid ih
  have HVK := Lib.hid (fun k (hk : k < t.kids.length) x (hx : x ∈ (gK t.kids k).pre) => hvk x (by rw [T.pre_eq]; exact List.mem_cons_of_mem _ (kid_pre_mem hk hx)))
  have HPL := Lib.hid (show ∀ k : Nat, (at_ :: plcs (prePL at_ 1 (t.kids.take k))).length ≤ 1 + sizeL (t.kids.take k) by
    intro k
    have h1 := plcs_lenL (prePL at_ 1 (t.kids.take k))
    rw [prePL_length] at h1
    simp only [List.length_cons]; omega)
  have HFIN := Lib.hid (show plcs (t.preP at_) = at_ :: plcs (prePL at_ 1 t.kids) by
    rw [T.preP_eq]
    unfold plcs
    rw [List.filter_cons, if_pos (by simpa using hneg), List.map_cons])
  have S2 := S1.box (b := bx + 1) (by simp [hbx]) #[.slice ao at_.length (at_.length + asp)] 22
  have hsz2 : ((w.alloc (.cells #[.int .i64 t.head, .slice ko t.kids.length (t.kids.length + ksp)] 38)).alloc (.cells #[.slice ao at_.length (at_.length + asp)] 22)).heap.size = bx + 2 := by simp [hbx]
  have HATL := Lib.hid (show at_.length ≤ 100000 by omega)
  clear ih hat hr hp hvk ht hsz hdp S1
  go_enter Try.func102, Try.ntmps102
  go_wp2_with fail
  rw [← hbx]
  refine S2.genC (z := bx + 2) (by omega) ?_
  clear x0 x1
  intro w2 z2 S
  have HBX := Lib.hid (show w.heap.size ≤ bx ∧ bx ≤ w.heap.size by omega)
  clear S2 hsz2 hbx
  obtain ⟨Pq, hPq⟩ : ∃ q : Nat → Prop, q = fun b => p b ∨ bx + 1 ≤ b := ⟨_, rfl⟩
  have HPQ := Lib.hid (show ∀ b, bx + 1 ≤ b → Pq b by rw [hPq]; exact fun b h => .inr h)
  have HPQ2 := Lib.hid (show ∀ b, Pq b → p b ∨ bx + 1 ≤ b by rw [hPq]; exact fun b h => h)
  have hown : intsE.Own Pq (bx + 1) w2 (.slice (some ⟨bx + 1, 0, none⟩) 1 1) [at_] := Elt.Own.one (E := intsE) (S.block 1) (Nat.le_refl _) ⟨ao, asp, rfl, (HAT.out.kept S.bel).mono (fun b h _ => ⟨by rw [hPq]; exact .inl h, by have := HP.out b h; have := HBX.out; omega⟩), by have := HATL.out; unfold maxLen; omega⟩
  have S := (S.pick [0]).add (.owns intsE (bx + 1) Pq (.slice (some ⟨bx + 1, 0, none⟩) 1 1) [at_]) hown
  clear hown hPq
  go_loopw [5, 6] (fun u i wr => ∃ k : Nat, k ≤ t.kids.length ∧ i = .int .i64 k ∧ bx + 2 ≤ wr.heap.size ∧ St w wr [.box bx #[.int .i64 t.head, .slice ko t.kids.length (t.kids.length + ksp)] 38, .owns intsE (bx + 1) Pq u (at_ :: plcs (prePL at_ 1 (t.kids.take k)))]) (fun _ i _ => t.kids.length - (intOf i).toNat)
  case atStart => exact ⟨0, by omega, rfl, z2, S⟩
  case round =>
    clear S z2
    obtain ⟨k, hk, rfl, hz, S⟩ := hrel
    by_cases hlt : k < t.kids.length
    · have hlti : (k : Int) < (t.kids.length : Int) := by omega
      obtain ⟨b, off, kk, kks, rfl, c0', c1', htk⟩ := HR.out k hlt
      have HTK := Lib.hid htk
      have HC0 := Lib.hid c0'; have HC1 := Lib.hid c1'
      obtain ⟨L, hL⟩ : ∃ L, L = at_ :: plcs (prePL at_ 1 (t.kids.take k)) := ⟨_, rfl⟩
      rw [← hL] at S
      have HKS := Lib.hid (show sizeL (t.kids.take k) + (gK t.kids k).size ≤ 100000 ∧ (gK t.kids k).size ≤ 100000 by have h1 := sizeL_take hlt; have h2 := sizeL_take_le t.kids (k + 1); have := HTS.out; have := HSZ.out; omega)
      have HKD := Lib.hid (show at_.length + 1 + (gK t.kids k).deep ≤ 100000 by have h1 := kid_deep hlt; have := HTD.out; have := HDP.out; omega)
      have HLL := Lib.hid (show L.length ≤ 1 + sizeL (t.kids.take k) by rw [hL]; exact HPL.out k)
      have HLY := Lib.hid (show ∀ Y, Y = plcs ((gK t.kids k).preP (at_ ++ [(k : Int) + 1])) → L ++ Y = at_ :: plcs (prePL at_ 1 (t.kids.take (k + 1))) from fun Y hY => by rw [hL, hY, prePL_take at_ hlt, plcs_append]; rfl)
      have hkm : k ≤ 100000 := by have := HKM.out; omega
      clear hL htk c0' c1'
      obtain ⟨lo, lc, rfl, _⟩ := (S.owns intsE 1).shape
      have HLO := Lib.hid (S.ownlt intsE 1 rfl)
      have HZ0 := Lib.hid hz
      have S := (S.pick [0]).add (.owns intsE (bx + 1) (fun b => Pq b ∧ b < wr.heap.size) (.slice lo L.length lc) L) ((S.owns intsE 1).tightC (fun b h h2 => ⟨h, h2⟩))
      have S1 := S.add (.owns intE wr.heap.size (fun _ => False) (.slice none 0 0) []) (Elt.Own.nil _ _ _ _)
      obtain ⟨⟨x0, _⟩, x1, _⟩ := S.two 0
      have HA := Lib.hid (HAT.out.kept S.bel)
      clear S
      have hatl := HATL.out
      go_wp2_with (at_builtin; refine wpList_appRow' (c := at_.length + asp) rfl (.tmp 20) (.tmp 21) 22 rfl intE S1 2 rfl (p' := fun _ => True) HA.out Try.underlying22 gi gz0 gz1 gz2 rfl rfl ?v1 ?v2 ?c1 ?c2 ?c3 ?c4 ?c5 ?c6 ?c7 ?_)
      try (case v1 => rfl)
      try (case v2 => rfl)
      case c1 => unfold maxLen; simp; omega
      case c2 => simp; omega
      case c3 => exact Nat.le_refl _
      case c4 => have := HBX.out; omega
      case c5 => intro bb h1; simp [Value.ownBlock] at h1
      case c6 => intro bb h1; simp [Value.ownBlock]
      case c7 => intro bb h1; trivial
      intro mo mc w8 S8 hs8 hmo hnil
      have S8 : St w w8 [.box bx #[.int .i64 t.head, .slice (some ⟨b, off, none⟩) t.kids.length (t.kids.length + ksp)] 38, .owns intsE (bx + 1) (fun b => Pq b ∧ b < wr.heap.size) (.slice lo L.length lc) L, .owns intE wr.heap.size (fun _ => False) (.slice mo at_.length mc) at_] := (S8.pick [0, 1]).add (.owns intE wr.heap.size (fun _ => False) (.slice mo at_.length mc) at_) (intOwn (S8.owns intE 2))
      have HNIL := Lib.hid (show at_ = [] → (Value.slice mo at_.length mc) = .slice none 0 0 from fun e => by obtain ⟨h1, _, h3⟩ := hnil e; rw [h1, h3, e]; rfl)
      have HW8 := Lib.hid hs8
      have HDZ := Lib.hid (show w8.drew.heap.size = w8.heap.size from rfl)
      have HZ := Lib.hid (show bx + 2 ≤ w8.heap.size by omega)
      have SD := Lib.hid S8.drew
      have FC := Lib.hid (show ∀ (W : World) (l : List Fct), St w W (.box bx #[.int .i64 t.head, .slice (some ⟨b, off, none⟩) t.kids.length (t.kids.length + ksp)] 38 :: l) → (W.cell? ⟨bx, 0, none⟩ = some (.int .i64 t.head) ∧ W.cell? ⟨bx, 1, none⟩ = some (.slice (some ⟨b, off, none⟩) t.kids.length (t.kids.length + ksp)) ∧ W.cell? ⟨b, off + k * 2, none⟩ = some (.int .i64 (gK t.kids k).head) ∧ W.cell? ⟨b, off + k * 2 + 1, none⟩ = some (.slice kk (gK t.kids k).kids.length ((gK t.kids k).kids.length + kks))) from fun W l h => ⟨(h.two 0).1.1, (h.two 0).2.1, Below.cellOf h.bel HC0.out, Below.cellOf h.bel HC1.out⟩)
      have hwk : IntKind.i64.wrap ((k : Int) + 1) = (k : Int) + 1 := IntWalk.i64_in _ (by omega)
      clear S1 S8 hmo hnil hs8 x0 x1 hz
      go_wp2_with fail
      refine wpH_region [12, 13] (fun W => W.cell? ⟨bx, 0, none⟩ = some (.int .i64 t.head) ∧ W.cell? ⟨bx, 1, none⟩ = some (.slice (some ⟨b, off, none⟩) t.kids.length (t.kids.length + ksp)) ∧ W.cell? ⟨b, off + k * 2, none⟩ = some (.int .i64 (gK t.kids k).head) ∧ W.cell? ⟨b, off + k * 2 + 1, none⟩ = some (.slice kk (gK t.kids k).kids.length ((gK t.kids k).kids.length + kks))) (by kernel_rfl) ?_
      have HS := FC.out _ _ SD.out
      refine wpH.take (i := 0) (by kernel_rfl) (by kernel_rfl) (by kernel_rfl) (by kernel_rfl) (by kernel_rfl) HS ?_
      intro oi ho
      simp only [List.getElem?_toArray, List.getElem?_cons_zero, Option.some.injEq] at ho
      subst ho
      refine ⟨?_, Or.inl ⟨by rfl, ?_⟩, fun _ _ _ h => h, ?_⟩
      rotate_left 1
      · intro W hW
        try dsimp only at hW
        go_simp
        try with_reducible rfl
      simp only [Act.put, List.setIfInBounds_toArray, List.set_cons_zero, List.set_cons_succ]
      refine wpH.take (i := 1) (by kernel_rfl) (by kernel_rfl) (by kernel_rfl) (by kernel_rfl) (by kernel_rfl) HS ?_
      intro oi ho
      simp only [List.getElem?_toArray, List.getElem?_cons_succ, List.getElem?_cons_zero, Option.some.injEq] at ho
      subst ho
      refine ⟨?_, Or.inl ⟨by rfl, ?_⟩, fun _ _ _ h => h, ?_⟩
      rotate_left 1
      · intro W hW
        try dsimp only at hW
        go_simp
        try with_reducible rfl
      simp only [Act.put, List.setIfInBounds_toArray, List.set_cons_zero, List.set_cons_succ]
      refine wpH.take (i := 2) (by kernel_rfl) (by kernel_rfl) (by kernel_rfl) (by kernel_rfl) (by kernel_rfl) HS ?_
      intro oi ho
      simp only [List.getElem?_toArray, List.getElem?_cons_succ, List.getElem?_cons_zero, Option.some.injEq] at ho
      subst ho
      refine ⟨?_, Or.inl ⟨by rfl, ?_⟩, fun _ _ _ h => h, ?_⟩
      rotate_left 1
      · intro W hW
        try dsimp only at hW
        go_simp
        try with_reducible rfl
      simp only [Act.put, List.setIfInBounds_toArray, List.set_cons_zero, List.set_cons_succ]
      refine wpH.take (i := 3) (by kernel_rfl) (by kernel_rfl) (by kernel_rfl) (by kernel_rfl) (by kernel_rfl) HS ?_
      intro oi ho
      simp only [List.getElem?_toArray, List.getElem?_cons_succ, List.getElem?_cons_zero, Option.some.injEq] at ho
      subst ho
      refine ⟨?_, Or.inl ⟨by rfl, ?_⟩, fun _ _ _ h => h, ?_⟩
      rotate_left 1
      · intro W hW
        try dsimp only at hW
        go_simp
        try with_reducible rfl
      simp only [Act.put, List.setIfInBounds_toArray, List.set_cons_zero, List.set_cons_succ]
      refine wpH.take (i := 4) (by kernel_rfl) (by kernel_rfl) (by kernel_rfl) (by kernel_rfl) (by kernel_rfl) HS ?_
      intro oi ho
      simp only [List.getElem?_toArray, List.getElem?_cons_succ, List.getElem?_cons_zero, Option.some.injEq] at ho
      subst ho
      refine ⟨?_, Or.inl ⟨by rfl, ?_⟩, fun _ _ _ h => h, ?_⟩
      rotate_left 1
      · intro W hW
        try dsimp only at hW
        go_simp
        try with_reducible rfl
      simp only [Act.put, List.setIfInBounds_toArray, List.set_cons_zero, List.set_cons_succ]
      refine wpH.take (i := 5) (by kernel_rfl) (by kernel_rfl) (by kernel_rfl) (by kernel_rfl) (by kernel_rfl) HS ?_
      intro oi ho
      simp only [List.getElem?_toArray, List.getElem?_cons_succ, List.getElem?_cons_zero, Option.some.injEq] at ho
      subst ho
      refine ⟨?_, Or.inl ⟨by rfl, ?_⟩, fun _ _ _ h => h, ?_⟩
      rotate_left 1
      · intro W hW
        try dsimp only at hW
        go_simp
        try with_reducible rfl
      simp only [Act.put, List.setIfInBounds_toArray, List.set_cons_zero, List.set_cons_succ]
      refine wpH.take (i := 6) (by kernel_rfl) (by kernel_rfl) (by kernel_rfl) (by kernel_rfl) (by kernel_rfl) HS ?_
      intro oi ho
      simp only [List.getElem?_toArray, List.getElem?_cons_succ, List.getElem?_cons_zero, Option.some.injEq] at ho
      subst ho
      refine ⟨?_, Or.inl ⟨by rfl, ?_⟩, fun _ _ _ h => h, ?_⟩
      rotate_left 1
      · intro W hW
        try dsimp only at hW
        go_simp
        try with_reducible rfl
      simp only [Act.put, List.setIfInBounds_toArray, List.set_cons_zero, List.set_cons_succ]
      refine wpH.take (i := 7) (by kernel_rfl) (by kernel_rfl) (by kernel_rfl) (by kernel_rfl) (by kernel_rfl) HS ?_
      intro oi ho
      simp only [List.getElem?_toArray, List.getElem?_cons_succ, List.getElem?_cons_zero, Option.some.injEq] at ho
      subst ho
      refine ⟨?_, Or.inl ⟨by rfl, ?_⟩, fun _ _ _ h => h, ?_⟩
      rotate_left 1
      · intro W hW
        try dsimp only at hW
        go_simp
        try with_reducible rfl
      simp only [Act.put, List.setIfInBounds_toArray, List.set_cons_zero, List.set_cons_succ]
      refine wpH.take (i := 8) (by kernel_rfl) (by kernel_rfl) (by kernel_rfl) (by kernel_rfl) (by kernel_rfl) HS ?_
      intro oi ho
      simp only [List.getElem?_toArray, List.getElem?_cons_succ, List.getElem?_cons_zero, Option.some.injEq] at ho
      subst ho
      refine ⟨?_, Or.inl ⟨by rfl, ?_⟩, fun _ _ _ h => h, ?_⟩
      rotate_left 1
      · intro W hW
        try dsimp only at hW
        go_simp
        try with_reducible rfl
      simp only [Act.put, List.setIfInBounds_toArray, List.set_cons_zero, List.set_cons_succ]
      refine wpH.one (i := 9) (by kernel_rfl) ?_
      intro oi ho
      simp only [List.getElem?_toArray, List.getElem?_cons_succ, List.getElem?_cons_zero, Option.some.injEq] at ho
      subst ho
      intro K hK
      have HK := Lib.hid hK
      clear hK
      go_simp
      refine HK.out _ _ (fun _ => FC.out _ _ ((SD.out).alloc (.cells #[.int .i64 ((k : Int) + 1)] 3))) ?_
      have HS := FC.out _ _ ((SD.out).alloc (.cells #[.int .i64 ((k : Int) + 1)] 3))
      try simp only [Act.put, List.setIfInBounds_toArray, List.set_cons_zero, List.set_cons_succ]
      refine wpH.one (i := 10) (by kernel_rfl) ?_
      intro oi ho
      simp only [List.getElem?_toArray, List.getElem?_cons_succ, List.getElem?_cons_zero, Option.some.injEq] at ho
      subst ho
      intro K hK
      have HK := Lib.hid hK
      clear hK
      rw [if_pos (by rfl)]
      refine wp_app1 (.tmp 29) (.tmp 32) 22 rfl intE SD.out 2 rfl (x := (k : Int) + 1) (q := fun _ => False) (p' := fun _ => False) (fun e => HNIL.out e) rfl Try.underlying22 gi gz0 gz1 gz2 rfl rfl rfl (by first | rfl | (simp; rfl)) (by unfold maxLen; omega) (by omega) (by have := HW8.out; simp; omega) (by have := HBX.out; have := HZ0.out; omega) ?c5 (fun b h => h.elim) (fun b h => h.elim id id) ?_
      case c5 =>
        intro bb e1 e2 e3
        have h1 := HLO.out
        have h2 := HZ.out
        simp only [offs, offAll, Fct.box, Fct.owns, and_true]
        have h3 := HDZ.out
        have h4 := HZ0.out
        refine ⟨by omega, fun e => ?_⟩
        rcases e with e | e
        · have := (h1 bb e).2; omega
        · have := e.2; omega
      intro gg cap w10 S10 hs10 hgg hat hsm hgr
      have S10 : St w w10 [.box bx #[.int .i64 t.head, .slice (some ⟨b, off, none⟩) t.kids.length (t.kids.length + ksp)] 38, .owns intsE (bx + 1) (fun b => Pq b ∧ b < wr.heap.size) (.slice lo L.length lc) L, .owns intE wr.heap.size (fun _ => False) (.slice (some ⟨gg, 0, none⟩) (at_.length + 1) cap) (at_ ++ [(k : Int) + 1])] := S10
      refine HK.out _ _ (fun _ => FC.out _ _ S10) ?_
      have HS := FC.out _ _ S10
      try simp only [Act.put, List.setIfInBounds_toArray, List.set_cons_zero, List.set_cons_succ]
      refine wpH.one (i := 11) (by kernel_rfl) ?_
      intro oi ho
      simp only [List.getElem?_toArray, List.getElem?_cons_succ, List.getElem?_cons_zero, Option.some.injEq] at ho
      subst ho
      intro K hK
      have HK := Lib.hid hK
      clear hK
      go_simp
      go_at_call 102
      obtain ⟨yo, ysp, hye, hyr, hyl⟩ := (S10.owns intE 2).rowB
      have HGL := Lib.hid (S10.ownlt intE 2 rfl)
      simp only [List.length_append, List.length_singleton, Value.slice.injEq, true_and] at hye
      obtain ⟨hyo, hyc⟩ := hye
      subst hyo
      refine (IH.out k hlt (fun b => (Value.slice (some ⟨gg, 0, none⟩) (at_.length + 1) cap).ownBlock = some b ∨ False) (at_ ++ [(k : Int) + 1]) _ (some ⟨gg, 0, none⟩) (at_.length + 1) cap w10 (fun b h => (HGL.out b (h.elim id False.elim)).2) (HTK.out.kept S10.bel) hyr (HVK.out k hlt) (by simp) (by omega) (by have := HKS.out; omega) (by have := HKD.out; simp; omega)).mono ?_
      rintro e w11 ⟨ro, rsp, rfl, hro, hb11⟩
      have S11 := S10.step hb11
      have z11 := hb11.size
      have HRO := Lib.hid hro
      obtain ⟨Y, hY⟩ : ∃ Y, Y = plcs ((gK t.kids k).preP (at_ ++ [(k : Int) + 1])) := ⟨_, rfl⟩
      rw [← hY] at HRO ⊢
      have HY := Lib.hid hY
      have HYL := Lib.hid (show Y.length ≤ (gK t.kids k).size by rw [hY]; exact plcs_len _ _)
      clear hb11 hro hY
      dsimp only
      refine HK.out _ _ (fun _ => FC.out _ _ S11) ?_
      have HS := FC.out _ _ S11
      try simp only [Act.put, List.setIfInBounds_toArray, List.set_cons_zero, List.set_cons_succ]
      refine wpH.one (i := 12) (by kernel_rfl) ?_
      intro oi ho
      simp only [List.getElem?_toArray, List.getElem?_cons_succ, List.getElem?_cons_zero, Option.some.injEq] at ho
      subst ho
      intro K hK
      have HK := Lib.hid hK
      clear hK
      rw [if_pos (by rfl)]
      have S12 : St w w11 [.box bx #[.int .i64 t.head, .slice (some ⟨b, off, none⟩) t.kids.length (t.kids.length + ksp)] 38, .owns intsE (bx + 1) (fun b => Pq b ∧ b < wr.heap.size) (.slice lo L.length lc) L] := S11.pick [0, 1]
      refine wp_appRow (.tmp 23) (.tmp 34) 53 rfl intsE S12 1 rfl (p' := Pq) (c := Y.length + rsp) HRO.out Try.underlying53 gI hz0 hz1 hz2 rfl rfl rfl (by rfl) (by have := HLL.out; have := HYL.out; have := HKS.out; unfold maxLen; omega) (by have := HLL.out; have := HYL.out; have := HKS.out; omega) (by have := HZ.out; have := HDZ.out; omega) (by have := HBX.out; omega) ?c6 ?c7 ?c8 ?_
      case c6 =>
        intro bb e1 e2 e3
        simp only [offs, offAll, Fct.box, and_true]
        omega
      case c7 =>
        intro bb h1 h2
        have h3 := (HLO.out bb h2).2
        rcases h1 with (h1 | h1) | h1
        · have := (HGL.out bb h1).1; omega
        · exact h1
        · have := HDZ.out; have := HW8.out; omega
      case c8 =>
        intro bb h1
        rcases h1 with h1 | (h1 | h1) | h1
        · exact h1.1
        · have h2 := (HGL.out bb h1).1; exact HPQ.out bb (by have := HZ0.out; omega)
        · exact h1.elim
        · exact HPQ.out bb (by have := HZ.out; have := HDZ.out; omega)
      intro oo oc w12 S13 hs13 _ _ _
      have S13 : St w w12 [.box bx #[.int .i64 t.head, .slice (some ⟨b, off, none⟩) t.kids.length (t.kids.length + ksp)] 38, .owns intsE (bx + 1) Pq (.slice oo (L.length + Y.length) oc) (L ++ Y)] := S13
      refine HK.out _ _ (fun h => absurd h (by decide)) ?_
      try simp only [Act.put, List.setIfInBounds_toArray, List.set_cons_zero, List.set_cons_succ]
      refine wpH.one (i := 13) (by kernel_rfl) ?_
      intro oi ho
      simp only [List.getElem?_toArray, List.getElem?_cons_succ, List.getElem?_cons_zero, Option.some.injEq] at ho
      subst ho
      intro K hK
      have HK := Lib.hid hK
      clear hK
      go_simp
      refine HK.out _ _ (fun h => absurd h (by decide)) ?_
      try simp only [Act.put, List.setIfInBounds_toArray, List.set_cons_zero, List.set_cons_succ]
      refine wpH.done (by kernel_rfl) ?_
      rw [HLY.out Y HY.out] at S13
      have SF := Lib.hid S13
      have zf : bx + 2 ≤ w12.heap.size := by have := HZ.out; have := HDZ.out; omega
      clear S10 S11 S12 S13 HS
      try go_wp2_with fail
      go_roundw
      case rel => exact ⟨k + 1, by omega, by go_num, zf, SF.out⟩
      case measure => simp [intOf] <;> omega
    · obtain rfl : k = t.kids.length := by omega
      rw [List.take_length, ← HFIN.out] at S
      obtain ⟨uo, usp, rfl, hrow, _⟩ := (S.owns intsE 1).row (fun b h => HPQ.out b h)
      have HRW := Lib.hid hrow
      have SE := Lib.hid S.bel
      obtain ⟨⟨x0, _⟩, x1, _⟩ := S.two 0
      clear S hrow
      go_wp2_with fail
      go_ret
      exact ⟨uo, usp, rfl, HRW.out.mono (fun b h _ => (HPQ2.out b h).imp id (fun h => by have := HBX.out; omega)), SE.out⟩
end Go.Proofs.Ytlhnfdjidjgfgaa
