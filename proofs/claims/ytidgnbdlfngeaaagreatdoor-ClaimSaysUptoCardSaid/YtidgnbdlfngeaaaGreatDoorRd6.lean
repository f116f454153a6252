/-
  Walks: the reader of a line: signs.
-/
import Derived.Test.YtidgnbdlfngeaaaGreatDoorRd5
import Derived.Test.YtidgnbdlfngeaaaGreatDoorE6
namespace Go.Proofs.YtidgnbdlfngeaaaGreatDoor
open Go.RowKit Go.Shelf
set_option linter.unusedVariables false
set_option linter.unusedSimpArgs false
set_option maxHeartbeats 400000

/-- what signs knows on its way -/
def sigI (s : Bs) (ns : List Int) (r : Bs) (ok : Bool) : Prop :=
  (ok = true → ∃ f, r.length + 1 ≤ f ∧ signsO s = (signsL f r).map fun l => ns ++ l) ∧ (ok = false → signsO s = none)
theorem sigI.start (s : Bs) : sigI s [] (tkR sSigns s) (tkB sSigns s) := by
  unfold sigI signsO
  rw [tk_eq]
  refine ⟨fun h => ⟨_, Nat.le_refl _, ?_⟩, fun h => ?_⟩
  · rw [if_pos h]
    simp only []
    cases signsL ((tkR sSigns s).length + 1) (tkR sSigns s) <;> simp
  · rw [if_neg (by rw [h]; simp)]
theorem sigI.fin {s : Bs} {ns : List Int} {ok : Bool} (h : sigI s ns [] ok) : (ok = true → signsO s = some ns) ∧ (ok = false → signsO s = none) := by
  refine ⟨fun h1 => ?_, h.2⟩
  obtain ⟨f, hf, e⟩ := h.1 h1
  match f, hf with
  | f + 1, _ => rw [e, signsL, if_pos rfl]; simp
theorem sigI.go {s r : Bs} {ns : List Int} {x : Int} (h : sigI s ns r true) (hr : r ≠ []) (hx : numOk (tkR [32] r) = true → x = valD (digs (tkR [32] r))) :
    sigI s (ns ++ [x]) (numR (tkR [32] r)) (tkB [32] r && numOk (tkR [32] r)) := by
  obtain ⟨f, hf, e⟩ := h.1 rfl
  match f, hf with
  | f + 1, hf =>
    refine ⟨fun h1 => ?_, fun h1 => ?_⟩
    · obtain ⟨h2, h3⟩ : tkB [32] r = true ∧ numOk (tkR [32] r) = true := by simpa using h1
      have h4 := tk1_lt h2
      have h5 := numR_le (tkR [32] r)
      refine ⟨f, by omega, ?_⟩
      rw [e, signsL, if_neg hr, tk_eq, if_pos h2]
      simp only [numO]
      rw [if_pos h3, hx h3]
      simp only []
      cases signsL f (numR (tkR [32] r)) <;> simp
    · rw [e, signsL, if_neg hr, tk_eq]
      by_cases h2 : tkB [32] r = true
      · rw [if_pos h2]
        have h3 : ¬ numOk (tkR [32] r) = true := by rw [h2] at h1; simpa using h1
        simp only [numO]
        rw [if_neg h3]; rfl
      · rw [if_neg h2]; rfl
set_option maxRecDepth 100000 in
set_option maxHeartbeats 8000000 in
theorem signs23 (s : Bs) (bR : Nat) (w0 w : World) (S : St w0 w [rdr bR s true]) (h0 : w0.heap.size ≤ bR) (hg : GV w0) (hs : s.length ≤ 100000) :
    Calls Tryz.prog 30 #[.pointer (some ⟨bR, 0, none⟩)] w fun e w' => ∃ (ns : List Int) (ro : Option Addr) (sp : Nat) (r : Bs) (ok : Bool), e = .returned (.slice ro ns.length (ns.length + sp)) ∧ (ok = true → signsO s = some ns) ∧ (ok = false → signsO s = none) ∧ ns.length ≤ s.length ∧
      w.heap.size ≤ w'.heap.size ∧ St w0 w' [rdr bR r ok, .kept w bR, .rowE intE (fun b => w.heap.size ≤ b) ro ns] := by
  obtain ⟨i3, gi, gz0, gz1, gz2⟩ := info_parts info3
  have HG := Lib.hid hg
  have hlR := S.lt 0
  have S1 := (S.add (.kept w bR) (fun c _ _ => rfl)).add (.owns intE w.heap.size (fun b => w.heap.size ≤ b) (.slice none 0 0) []) (Elt.Own.nil _ _ _ _)
  have HOF := Lib.hid (show offAll bR [Fct.kept w bR, .owns intE w.heap.size (fun b => w.heap.size ≤ b) (.slice none 0 0) []] by
    simp only [offAll, Fct.box, Fct.kept, Fct.owns, and_true]
    refine ⟨by simp, fun e => ?_⟩
    rcases e with e | e
    · cases e
    · omega)
  have HT1 := Lib.hid (take37 sSigns s true bR w0 _ _ S1 h0 HOF.out)
  have HI := Lib.hid (sigI.start s)
  have hb := tkR_le sSigns s
  clear S S1 hg
  obtain ⟨r0, hr0⟩ : ∃ r, r = tkR sSigns s := ⟨_, rfl⟩
  obtain ⟨k0, hk0⟩ : ∃ r, r = tkB sSigns s := ⟨_, rfl⟩
  rw [← hr0, ← hk0] at HT1 HI
  rw [← hr0] at hb
  clear hr0 hk0
  go_enter Tryz.func30, Tryz.ntmps30
  go_wp2_with fail
  refine (HT1.out).mono ?_
  rintro e w1 ⟨rfl, z1, S⟩
  clear HT1
  obtain ⟨⟨y0, y1⟩, y2, y3⟩ := S.two 0
  have S2 : St w0 (w1.setCell ⟨bR, 1, none⟩ (.bool k0)) [rdr bR r0 k0, .kept w bR, .owns intE w.heap.size (fun b => w.heap.size ≤ b) (.slice none 0 0) []] := S.set21 0 rfl (.bool k0) h0 HOF.out
  have z2 : w.heap.size ≤ (w1.setCell ⟨bR, 1, none⟩ (.bool k0)).heap.size := by simp; exact z1
  clear S HOF
  go_upto_block 0 with fail
  go_cut [3] (fun o W => ∃ (ns : List Int) (r : Bs) (ok : Bool), (ok = true → signsO s = some ns) ∧ (ok = false → signsO s = none) ∧ ns.length ≤ s.length ∧ w.heap.size ≤ W.heap.size ∧ St w0 W [rdr bR r ok, .kept w bR, .owns intE w.heap.size (fun b => w.heap.size ≤ b) o ns])
  case first =>
    refine S2.genC (z := w.heap.size) z2 ?_
    clear S2 z2 y0 y1 y2 y3 z1
    intro w2 z2 S2
    go_wp2_with fail
    go_loopg [3] (if k0 = true then r0.length + 1 else 0) (fun m o wr => ∃ (ns : List Int) (r : Bs) (ok : Bool), m = (if ok = true then r.length + 1 else 0) ∧ Hid (sigI s ns r ok) ∧ r.length ≤ s.length ∧ (ok = true → ns.length + r.length ≤ s.length) ∧ ns.length ≤ s.length ∧ w.heap.size ≤ wr.heap.size ∧ St w0 wr [rdr bR r ok, .kept w bR, .owns intE w.heap.size (fun b => w.heap.size ≤ b) o ns])
    case atStart => exact ⟨[], r0, k0, rfl, HI, hb, fun _ => by simpa using hb, by simp, z2, S2⟩
    case round =>
      clear S2 HI
      obtain ⟨ns, r, ok, hm, HI, hr, hn, hns, zr, S⟩ := hrel
      obtain ⟨⟨y0, y1⟩, y2, y3⟩ := S.two 0
      cases ok with
      | false =>
        have h2 := HI.out.2 rfl
        go_wp2_with fail
        go_meet
        case rel => exact ⟨ns, r, false, (fun h => by cases h), (fun _ => h2), hns, zr, S⟩
      | true =>
        cases r with
        | nil =>
          have h2 := HI.out.fin.1 rfl
          go_wp2_with fail
          go_meet
          case rel => exact ⟨ns, [], true, (fun _ => h2), (fun h => by cases h), hns, zr, S⟩
        | cons a r =>
          have HNE := Lib.hid (show a :: r ≠ [] by simp)
          have HNO := Lib.hid (hn rfl)
          have HOW := Lib.hid (fun c (hc : u3.ownBlock = some c) => S.ownlt intE 2 rfl c hc)
          have HOF := Lib.hid (show offAll bR [Fct.kept w bR, .owns intE w.heap.size (fun b => w.heap.size ≤ b) u3 ns] by
            simp only [offAll, Fct.box, Fct.kept, Fct.owns, and_true]
            refine ⟨by simp, fun e => ?_⟩
            rcases e with e | e
            · have := (S.ownlt intE 2 rfl _ e).1; omega
            · omega)
          have HT := Lib.hid (take37 [32] (a :: r) true bR w0 _ _ S h0 HOF.out)
          clear S hn
          go_wp2_with fail
          refine (HT.out).mono ?_
          rintro e w3 ⟨rfl, z3, S⟩
          clear HT y0 y1 y2 y3
          obtain ⟨⟨y0, y1⟩, y2, y3⟩ := S.two 0
          have S4 : St w0 (w3.setCell ⟨bR, 1, none⟩ (.bool (tkB [32] (a :: r)))) [rdr bR (tkR [32] (a :: r)) (tkB [32] (a :: r)), .kept w bR, .owns intE w.heap.size (fun b => w.heap.size ≤ b) u3 ns] := S.set21 0 rfl (.bool (tkB [32] (a :: r))) h0 HOF.out
          have z4 : wr.heap.size ≤ (w3.setCell ⟨bR, 1, none⟩ (.bool (tkB [32] (a :: r)))).heap.size := by simp; exact z3
          clear S z3
          go_upto_region 5 with fail
          refine S4.genC (z := wr.heap.size) z4 ?_
          clear S4 z4 y0 y1 y2 y3
          intro w4 z4 S
          have hlr := tkR_le [32] (a :: r)
          have HNUM := Lib.hid (number38 _ _ bR w0 _ _ S h0 HOF.out HG.out (by omega))
          clear S
          go_wp2_with fail
          refine (HNUM.out).mono ?_
          rintro e w5 ⟨x, rfl, hx, z5, S⟩
          clear HNUM
          have HI2 := Lib.hid (HI.out.go HNE.out hx)
          clear hx
          have hno := HNO.out
          have hnr := numR_le (tkR [32] (a :: r))
          have HTL := Lib.hid (fun (h : tkB [32] (a :: r) = true) => tk1_lt h)
          obtain ⟨q, hq⟩ : ∃ q, q = numR (tkR [32] (a :: r)) := ⟨_, rfl⟩
          obtain ⟨k, hk⟩ : ∃ q, q = (tkB [32] (a :: r) && numOk (tkR [32] (a :: r))) := ⟨_, rfl⟩
          rw [← hq, ← hk] at HI2 S
          rw [← hq] at hnr
          have HKL := Lib.hid (show k = true → q.length + 1 ≤ (a :: r).length from fun h => by
            rw [hk] at h
            have := HTL.out (by simp at h; exact h.1)
            omega)
          clear hq hk HTL HI
          go_wp2_with (at_builtin; refine wpList_app rfl (.tmp 25) (.tmp 28) 22 rfl intE S 2 rfl (x := x) (q := pF) (p' := fun b => w.heap.size ≤ b) rfl Tryz.underlying22 gi gz0 gz1 gz2 rfl rfl rfl rfl ?c1 ?c2 ?c3 ?c4 ?c5 ?c6 ?c7 ?_)
          case c1 => unfold maxLen; simp at hno; omega
          case c2 => simp at hno; omega
          case c3 => omega
          case c4 => omega
          case c5 =>
            intro bb h1 h2 h3
            have h4 := (HOW.out bb h1)
            simp only [offs, offAll, rdr, Fct.box, Fct.kept, and_true]
            omega
          case c6 => intro bb h1; exact h1.elim
          case c7 => intro bb h1; rcases h1 with h1 | h1; exact h1; exact h1.elim
          intro gg cap w6 S6 z6 hgl hgg
          go_wp2_with fail
          go_roundg (if k = true then q.length + 1 else 0)
          case measure =>
            rw [hm]
            have := HKL.out
            simp only [if_true]
            split
            · rename_i hk; have := this hk; simp at this ⊢; omega
            · omega
          case rel =>
            refine ⟨ns ++ [x], q, k, rfl, HI2, by omega, fun hk => ?_, by rw [List.length_append]; simp at hno ⊢; omega, by omega, S6⟩
            have := HKL.out hk
            rw [List.length_append]; simp at hno this ⊢; omega
  case rest =>
    obtain ⟨ns, r, ok, h1, h2, hns, zr, S⟩ := hcut
    obtain ⟨ro, rsp, rfl, hrow, hml⟩ := (S.owns intE 2).row (fun b h => h)
    have S8 := Lib.hid ((S.pick [0, 1]).add (.rowE intE (fun b => w.heap.size ≤ b) ro ns) hrow)
    clear S hrow
    go_wp2_with fail
    go_ret
    exact ⟨ns, ro, rsp, r, ok, rfl, h1, h2, hns, zr, S8.out⟩
end Go.Proofs.YtidgnbdlfngeaaaGreatDoor
