/-
  Walk: pat.Do's closure 'add': a claim is checked, and gathered if it is new.
-/
import Derived.Test.YtlhnfdjidjgfgaaProg
import Derived.Test.YtlhnfdjidjgfgaaPa4
import Derived.Test.YtlhnfdjidjgfgaaV4
import Derived.Test.YtlhnfdjidjgfgaaSt3
import Derived.Test.YtlhnfdjidjgfgaaG4
import Derived.RegionTactic
import Derived.Deep.CutBlock
import Derived.Deep.DeepCutAuto
namespace Go.Proofs.Ytlhnfdjidjgfgaa
open Go.RowKit Go.Shelf
set_option linter.unusedVariables false
set_option maxHeartbeats 400000

theorem infoCl41 : (Try.prog.info? 41).map (fun i => (i.zero, i.size, i.bytes)) = some (some (.agg #[.slice none 0 0]), 1, 24) := by kernel_rfl
/-- what add makes of what has been gathered -/
noncomputable def addF (ar : List Int) (K : List (List Fc)) (x : List Fc) : List (List Fc) × Bool :=
  if codeF ar x ≠ 0 then (K, false) else if x ∈ K then (K, decide (K.length ≤ 60)) else (K ++ [x], decide (K.length + 1 ≤ 60))
def AddP (w0 : World) (ar : List Int) (K : List (List Fc)) (x : List Fc) (bo B : Nat) (p : Nat → Prop) (ov : Value) (r : List Fct) (w : World) (e : Ending) (w' : World) : Prop :=
  e = .returned (.bool (addF ar K x).2) ∧ ∃ ov', St w0 w' (.box bo #[ov'] 23 :: .owns claimE B p ov' (addF ar K x).1 :: r) ∧ (∀ b, ov'.ownBlock = some b → ov.ownBlock = some b ∨ w.heap.size ≤ b) ∧ w.heap.size ≤ w'.heap.size

set_option maxRecDepth 100000 in
set_option maxHeartbeats 4000000 in
theorem add75 {w0 : World} (ar : List Int) (K : List (List Fc)) (x : List Fc) (bl bo B : Nat) (p q qa : Nat → Prop) (ao xo : Option Addr) (ca sp : Nat) (ov : Value) (r : List Fct) (w : World)
    (S : St w0 w (.box bo #[ov] 23 :: .owns claimE B p ov K :: r)) (hoff : ∀ b, (b = bo ∨ ov.ownBlock = some b ∨ w.heap.size ≤ b) → offAll b r) (hl : w.cell? ⟨bl, 0, none⟩ = some (.slice ao ar.length ca)) (ha : intE.Row qa w ao ar) (hx : factE.Row q w xo x)
    (hB : w0.heap.size ≤ B) (hBw : B ≤ w.heap.size) (hbo : w0.heap.size ≤ bo) (hpB : ∀ b, B ≤ b → p b) (hpo : ¬ p bo) (hqp : ∀ b, q b → p b ∧ ov.ownBlock ≠ some b) (hna : ar.length ≤ 1000000000) (hxn : x.length ≤ 100) (hKn : K.length ≤ 61) (hKx : ∀ c ∈ K, c.length ≤ 1000000) (hoo : ov.ownBlock ≠ some bo) :
    Calls Try.prog 75 #[.agg #[.slice xo x.length (x.length + sp)], .pointer (some ⟨bl, 0, none⟩), .pointer (some ⟨bo, 0, none⟩)] w (AddP w0 ar K x bo B p ov r w) := by
  have HX := Lib.hid hx; have HA := Lib.hid ha; have HOFF := Lib.hid hoff; have HQP := Lib.hid hqp; have HPO := Lib.hid hpo; have HPB := Lib.hid hpB; have HOO := Lib.hid hoo; have HKX := Lib.hid hKx
  obtain ⟨i41, gi, gz0, gz1, gz2⟩ := info_parts infoCl41
  obtain ⟨ko, ksp, rfl, hrow, _⟩ := (S.owns claimE 1).row hpB
  have HROW := Lib.hid hrow
  obtain ⟨bx, hbx⟩ : ∃ b, b = w.heap.size := ⟨_, rfl⟩
  have S1 := S.boxH hbx.symm #[.slice xo x.length (x.length + sp)] 41
  have HL := Lib.hid hl
  have HBOL := Lib.hid (S.lt 0)
  have HLO := Lib.hid (fun bb (e : (Value.slice ko K.length (K.length + ksp)).ownBlock = some bb) => (S.ownlt claimE 1 rfl bb e).2)
  have hc0 := Below.cellOf ((Below.refl _ w).alloc (Nat.le_refl _) (.cells #[.slice xo x.length (x.length + sp)] 41)) hl
  have HB0 := Lib.hid ((Below.refl w.heap.size w).alloc (Nat.le_refl _) (.cells #[.slice xo x.length (x.length + sp)] 41))
  have HC := Lib.hid (code73 ar x q qa ao xo ca sp _ (HA.out.kept HB0.out) (HX.out.kept HB0.out) hna (by unfold maxLen; omega))
  have HBX := Lib.hid hbx
  clear hx ha hoff hqp hpo hpB hoo hKx hrow hl
  go_enter Try.func75, Try.ntmps75
  go_wp2_with fail
  rw [← hbx]
  clear hbx
  refine HC.out.mono ?_
  rintro e w1 ⟨rfl, hb1⟩
  have S2 := S1.step hb1
  have HB1 := Lib.hid (Below.step HB0.out hb1)
  obtain ⟨CD, hCD⟩ : ∃ z, z = codeF ar x := ⟨_, rfl⟩
  rw [← hCD]
  have HCD := Lib.hid hCD
  clear S1 hb1 hc0 hCD
  by_cases hcd : CD = 0
  case neg =>
    have hcb : (CD != 0) = true := by simp [hcd]
    have HF := Lib.hid (show addF ar K x = (K, false) by unfold addF; rw [if_pos (by rw [← HCD.out]; exact hcd)])
    clear hcd
    go_wp2_with fail
    have SB := Lib.hid S2
    clear S2 S
    go_ret
    exact ⟨by rw [HF.out]; rfl, _, by rw [HF.out]; exact SB.out.tail, fun b h => .inl h, HB1.out.size⟩
  case pos =>
    have hcb : (CD != 0) = false := by simp [hcd]
    have HZ := Lib.hid (show codeF ar x = 0 by rw [← HCD.out]; exact hcd)
    obtain ⟨x0, _⟩ := S2.one 0
    obtain ⟨y0, _⟩ := S2.one 1
    have HM := Lib.hid (show anyB (fun i => decide (x = gCl K i)) K.length = decide (x ∈ K) by
      rw [Bool.eq_iff_iff, anyB_iff, decide_eq_true_iff]
      constructor
      · rintro ⟨i, hi, e⟩
        rw [decide_eq_true_iff, gCl_get hi] at e
        rw [e]; exact List.getElem_mem hi
      · intro hm
        obtain ⟨i, hi, e⟩ := List.getElem_of_mem hm
        exact ⟨i, hi, by rw [decide_eq_true_iff, gCl_get hi]; exact e.symm⟩)
    have HCF := Lib.hid (containsFunc77 78 #[.pointer (some ⟨bx, 0, none⟩)] (enters_of Try.func78 (by kernel_rfl) rfl) p ko K K.length (K.length + ksp) rfl (fun i => decide (x = gCl K i)) w1 (by omega) (HROW.out.kept HB1.out) (fun i w2 k sp' hi hb hr => sameIt78 x (gCl K i) q p bx k xo sp' (x.length + sp) w2 (Below.cellOf hb x0) ((HX.out.kept HB1.out).kept hb) hr (by omega) (by rw [gCl_get hi]; exact HKX.out _ (List.getElem_mem hi))))
    rw [HM.out] at HCF
    have hki : (K.length : Int) ≤ 61 := by omega
    clear hcd S
    go_wp2_with fail
    refine HCF.out.mono ?_
    rintro e w3 ⟨rfl, hb3⟩
    have S3 := S2.step hb3
    have HB3 := Lib.hid (Below.step HB1.out hb3)
    clear S2 hb3 x0 y0
    obtain ⟨x0, _⟩ := S3.one 0
    obtain ⟨y0, y1⟩ := S3.one 1
    by_cases hm : x ∈ K
    · rw [decide_eq_true hm]
      have HF := Lib.hid (show addF ar K x = (K, decide (K.length ≤ 60)) by unfold addF; rw [if_neg (by rw [HZ.out]; simp), if_pos hm])
      have SB := Lib.hid S3
      clear S3 hm
      go_wp2_with fail
      go_ret
      exact ⟨by rw [HF.out]; exact ret_bool (by rw [Bool.eq_iff_iff]; simp; omega), _, by rw [HF.out]; exact SB.out.tail, fun b h => .inl h, HB3.out.size⟩
    · rw [decide_eq_false hm]
      have HF := Lib.hid (show addF ar K x = (K ++ [x], decide (K.length + 1 ≤ 60)) by unfold addF; rw [if_neg (by rw [HZ.out]; simp), if_neg hm])
      have HXE := Lib.hid (show claimE.is q w3 [.slice xo x.length (x.length + sp)] x from ⟨xo, sp, rfl, HX.out.kept HB3.out, by unfold maxLen; omega⟩)
      have hbw := HB3.out.size
      clear hm
      go_wp2_with (at_builtin; refine wpList_app rfl (.tmp 14) (.tmp 16) 23 rfl claimE S3 2 rfl (x := x) (q := q) (p' := p) HXE.out Try.underlying23 gi gz0 gz1 gz2 rfl rfl ?v1 ?v2 ?c1 ?c2 ?c3 ?c4 ?c5 ?c6 ?c7 ?_)
      try (case v1 => rfl)
      try (case v2 => rfl)
      case c1 => unfold maxLen; omega
      case c2 => omega
      case c3 => omega
      case c4 => exact hB
      case c5 =>
        intro bb h1 h2 h3
        have h4 := HOFF.out bb (.inr (.inl h1))
        simp only [offs, Fct.box]
        exact ⟨fun e => by have h5 := HLO.out bb h1; have := HBX.out; omega, fun e => HOO.out (by rw [← e]; exact h1), h4⟩
      case c6 => intro bb h1 h2; exact (HQP.out bb h1).2 h2
      case c7 => intro bb h1; exact h1.elim id (fun h => (HQP.out bb h).1)
      intro gg cap w4 S4 hs4 hgg hat4
      have hgbo : gg ≠ bo := fun e => by
        rcases hat4 with h | h
        · exact HOO.out (by rw [h, e])
        · have := HBOL.out; omega
      have hbxo : bo ≠ bx := by have := HBOL.out; have := HBX.out; omega
      obtain ⟨e0, e1⟩ := S4.one 1
      have hlb := S4.lt 1
      have SG := Lib.hid (show St w0 (w4.setCell ⟨bo, 0, none⟩ (.slice (some ⟨gg, 0, none⟩) (K.length + 1) cap)) (.box bo #[.slice (some ⟨gg, 0, none⟩) (K.length + 1) cap] 23 :: .owns claimE B p (.slice (some ⟨gg, 0, none⟩) (K.length + 1) cap) (K ++ [x]) :: r) from (S4.set1 1 rfl (.slice (some ⟨gg, 0, none⟩) (K.length + 1) cap) hbo (by
        simp only [offs, offAll, fset, Fct.box, Fct.owns]
        exact ⟨hbxo, fun e => e.elim (fun e => hgbo (by simpa [Value.ownBlock] using e)) HPO.out, HOFF.out bo (.inl rfl)⟩)).tail)
      have HGO := Lib.hid (show ∀ b, (.slice (some ⟨gg, 0, none⟩) (K.length + 1) cap : Value).ownBlock = some b → (Value.slice ko K.length (K.length + ksp)).ownBlock = some b ∨ w.heap.size ≤ b from fun b e => by
        have e' : gg = b := by simpa [Value.ownBlock] using e
        subst e'
        rcases hat4 with h | h
        · exact .inl h
        · right; omega)
      have hz4 : w.heap.size ≤ (w4.setCell ⟨bo, 0, none⟩ (.slice (some ⟨gg, 0, none⟩) (K.length + 1) cap)).heap.size := by simp; omega
      clear S3 S4 hgbo hat4 x0 y0
      go_wp2_with fail
      go_ret
      exact ⟨by rw [HF.out]; exact ret_bool (by rw [Bool.eq_iff_iff]; simp; omega), _, by rw [HF.out]; exact SG.out, HGO.out, hz4⟩
end Go.Proofs.Ytlhnfdjidjgfgaa
