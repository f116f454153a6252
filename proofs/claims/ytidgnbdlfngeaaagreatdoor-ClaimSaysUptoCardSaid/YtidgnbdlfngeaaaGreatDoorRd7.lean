/-
  Walks: the reader of a line: claim.
-/
import Derived.Test.YtidgnbdlfngeaaaGreatDoorRd6
import Derived.Test.YtidgnbdlfngeaaaGreatDoorE5
import Derived.Test.YtidgnbdlfngeaaaGreatDoorE80
namespace Go.Proofs.YtidgnbdlfngeaaaGreatDoor
open Go.RowKit Go.Shelf
set_option linter.unusedVariables false
set_option linter.unusedSimpArgs false
set_option maxHeartbeats 400000

theorem St.setC {w0 w : World} {l : List Fct} (S : St w0 w l) (i : Nat) {b : Nat} {cs : Array Value} {T : TypeId} (hi : Fct.at l i = Fct.box b cs T) (j : Nat) (u : Value) (h0 : w0.heap.size ≤ b) (hoff : offs b i l) :
    St w0 (w.setCell ⟨b, j, none⟩ u) (fset l i (.box b (cs.setIfInBounds j u) T)) :=
  S.put i hi h0 hoff (fun h => h.setCell (p := ⟨b, j, none⟩) h0 _)
    (fun c hc => Below.heap_setCell _ _ _ _ hc) (fun h => by simp [World.setCell, Array.getElem?_modify, h])

theorem own_tight {α : Type} {E : Elt α} {p q : Nat → Prop} {B : Nat} {w : World} {o : Value} {xs : List α} (h : E.Own p B w o xs) (hpq : ∀ b, p b → b < w.heap.size → q b) : E.Own q B w o xs := by
  obtain ⟨css, h1, h2, h3⟩ := h
  exact ⟨css, h1, h2, fun i cs x e1 e2 => E.keep (fun b hb hl => ⟨rfl, hpq b hb.1 hl, hb.2⟩) (h3 i cs x e1 e2)⟩
def gpR (first : Bool) (r : Bs) : Bs := if first = true then r else tkR [32, 124] r
def gpB (first : Bool) (r : Bs) : Bool := first || tkB [32, 124] r
theorem gapO_eq (first : Bool) (r : Bs) : gapO first r = if gpB first r = true then some (gpR first r) else none := by
  unfold gapO gpB gpR
  cases first with
  | true => simp
  | false => rw [if_neg (by simp), tk_eq]; simp
theorem gpR_le (first : Bool) (r : Bs) : (gpR first r).length ≤ r.length := by
  unfold gpR; split; exact Nat.le_refl _; exact tkR_le _ _
/-- what claim knows on its way -/
def clI (s : Bs) (fs : List Fc) (r : Bs) (ok : Bool) : Prop :=
  (ok = true → ∃ f, r.length + 1 ≤ f ∧ claimO s = (factsL f fs.isEmpty r).map fun l => fs ++ l) ∧ (ok = false → claimO s = none)
theorem clI.start (s : Bs) : clI s [] (tkR sClaim s) (tkB sClaim s) := by
  unfold clI claimO
  rw [tk_eq]
  refine ⟨fun h => ⟨_, Nat.le_refl _, ?_⟩, fun h => ?_⟩
  · rw [if_pos h]
    simp only [List.isEmpty_nil]
    cases factsL ((tkR sClaim s).length + 1) true (tkR sClaim s) <;> simp
  · rw [if_neg (by rw [h]; simp)]
theorem clI.fin {s : Bs} {fs : List Fc} {ok : Bool} (h : clI s fs [] ok) : (ok = true → claimO s = some fs) ∧ (ok = false → claimO s = none) := by
  refine ⟨fun h1 => ?_, h.2⟩
  obtain ⟨f, hf, e⟩ := h.1 h1
  match f, hf with
  | f + 1, _ => rw [e, factsL, if_pos rfl]; simp
/-- one literal -/
theorem fact_go {r1 r3 r6 : Bs} {k1 k3 k6 : Bool} {tL tR : T} (h1 : termQ 1 (tkR [32] r1) (tkB [32] r1 && k1) tL r3 k3) (h2 : termQ 1 (tkR [61] (tkR [33] r3)) (tkB [61] (tkR [33] r3) && k3) tR r6 k6) (hk : k1 = true) :
    (k6 = true → factO r1 = some (⟨tkB [33] r3, tL, tR⟩, r6)) ∧ (k6 = false → factO r1 = none) := by
  subst hk
  have hnot : notO r3 = (tkB [33] r3, tkR [33] r3) := by
    unfold notO
    rw [tk_eq]
    cases h : tkB [33] r3 with
    | true => rfl
    | false => rw [tkR_miss h]; rfl
  unfold factO
  rw [tk_eq]
  by_cases a1 : tkB [32] r1 = true
  · rw [if_pos a1]
    simp only []
    rw [a1] at h1
    cases a2 : k3 with
    | false =>
      subst a2
      rw [h1.2 rfl rfl (fT _) (by unfold fT; omega)]
      simp only [Bool.and_false] at h2
      refine ⟨fun h => ?_, fun _ => rfl⟩
      have := (h2.1 h).1; cases this
    | true =>
      subst a2
      rw [(h1.1 rfl).2 (fT _) (by unfold fT; omega)]
      simp only [hnot]
      rw [tk_eq]
      by_cases a3 : tkB [61] (tkR [33] r3) = true
      · rw [if_pos a3]
        simp only []
        rw [a3] at h2
        cases a4 : k6 with
        | false => subst a4; rw [h2.2 rfl rfl (fT _) (by unfold fT; omega)]; exact ⟨(fun h => by cases h), fun _ => rfl⟩
        | true => subst a4; rw [(h2.1 rfl).2 (fT _) (by unfold fT; omega)]; exact ⟨fun _ => rfl, (fun h => by cases h)⟩
      · rw [if_neg a3]
        refine ⟨fun h => ?_, fun _ => rfl⟩
        have := (h2.1 h).1; simp at this; exact absurd this a3
  · rw [if_neg a1]
    refine ⟨fun h => ?_, fun _ => rfl⟩
    have h5 := (h2.1 h).1
    have h6 : k3 = true := by simp at h5; exact h5.2
    have h7 := (h1.1 h6).1
    simp at h7; exact absurd h7 a1
theorem clI.go {s r r6 : Bs} {fs : List Fc} {f : Fc} {k6 : Bool} (h : clI s fs r true) (hr : r ≠ []) (hle : k6 = true → r6.length + 1 ≤ r.length)
    (h1 : gpB fs.isEmpty r = true → k6 = true → factO (gpR fs.isEmpty r) = some (f, r6)) (h2 : gpB fs.isEmpty r = true → k6 = false → factO (gpR fs.isEmpty r) = none) (h3 : k6 = true → gpB fs.isEmpty r = true) : clI s (fs ++ [f]) r6 k6 := by
  obtain ⟨n, hn, e⟩ := h.1 rfl
  match n, hn with
  | n + 1, hn =>
    have hem : (fs ++ [f]).isEmpty = false := by simp
    refine ⟨fun hk => ?_, fun hk => ?_⟩
    · have := hle hk
      refine ⟨n, by omega, ?_⟩
      rw [e, factsL, if_neg hr, gapO_eq, if_pos (h3 hk)]
      simp only []
      rw [h1 (h3 hk) hk, hem]
      simp only []
      cases factsL n false r6 <;> simp
    · rw [e, factsL, if_neg hr, gapO_eq]
      by_cases hg : gpB fs.isEmpty r = true
      · rw [if_pos hg]
        simp only []
        rw [h2 hg hk]; rfl
      · rw [if_neg hg]; rfl
theorem infoF : (Tryz.prog.info? 53).map (fun i => (i.zero, i.size, i.bytes)) = some (some (.agg #[.bool false, .int .i64 0, .slice none 0 0, .int .i64 0, .slice none 0 0]), 5, 72) := by kernel_rfl

set_option maxRecDepth 100000 in
set_option maxHeartbeats 8000000 in
theorem claim24 (s : Bs) (bR : Nat) (w0 w : World) (S : St w0 w [rdr bR s true]) (h0 : w0.heap.size ≤ bR) (hg : GV w0) (hs : s.length ≤ 100000) :
    Calls Tryz.prog 31 #[.pointer (some ⟨bR, 0, none⟩)] w fun e w' => ∃ (fs : List Fc) (ro : Option Addr) (sp : Nat) (r : Bs) (ok : Bool), e = .returned (.agg #[.slice ro fs.length (fs.length + sp)]) ∧ (ok = true → claimO s = some fs) ∧ (ok = false → claimO s = none) ∧ fs.length ≤ s.length ∧
      w.heap.size ≤ w'.heap.size ∧ St w0 w' [rdr bR r ok, .kept w bR, .rowE factE (fun b => w.heap.size ≤ b) ro fs] := by
  obtain ⟨i47, gi, gz0, gz1, gz2⟩ := info_parts infoF
  have HG := Lib.hid hg
  have hlR := S.lt 0
  obtain ⟨bx, hbx⟩ : ∃ b, b = w.heap.size := ⟨_, rfl⟩
  have S1 := (((S.add (.kept w bR) (fun c _ _ => rfl)).box hbx.symm #[.slice none 0 0] 42).box (b := bx + 1) (by simp [hbx]) #[.slice none 0 0] 42).add (.owns factE (bx + 2) (fun b => bx + 2 ≤ b) (.slice none 0 0) []) (Elt.Own.nil _ _ _ _)
  have HBX := Lib.hid (show w.heap.size = bx ∧ bR < bx from ⟨hbx.symm, by omega⟩)
  have HI := Lib.hid (clI.start s)
  have hb := tkR_le sClaim s
  obtain ⟨r0, hr0⟩ : ∃ r, r = tkR sClaim s := ⟨_, rfl⟩
  obtain ⟨k0, hk0⟩ : ∃ r, r = tkB sClaim s := ⟨_, rfl⟩
  rw [← hr0, ← hk0] at HI
  rw [← hr0] at hb
  have hz1 : ((w.alloc (.cells #[.slice none 0 0] 42)).alloc (.cells #[.slice none 0 0] 42)).heap.size = bx + 2 := by simp [hbx]
  clear S hg
  go_enter Tryz.func31, Tryz.ntmps31
  go_upto_region 2 with fail
  rw [← hbx]
  refine S1.genC (z := bx + 2) (by omega) ?_
  clear S1 hz1 hbx
  intro w1 z1 S
  have HOF := Lib.hid (show ∀ (W : World) (rr : Bs) (kk : Bool) (o3 o : Value) (fs : List Fc), St w0 W [rdr bR rr kk, .kept w bR, .box bx #[.slice none 0 0] 42, .box (bx + 1) #[o3] 42, .owns factE (bx + 2) (fun b => bx + 2 ≤ b) o fs] → offAll bR [Fct.kept w bR, .box bx #[.slice none 0 0] 42, .box (bx + 1) #[o3] 42, .owns factE (bx + 2) (fun b => bx + 2 ≤ b) o fs] by
    intro W rr kk o3 o fs S
    have h1 := HBX.out
    simp only [offAll, Fct.box, Fct.kept, Fct.owns, and_true]
    refine ⟨by simp, by omega, by omega, fun e => ?_⟩
    rcases e with e | e
    · have := (S.ownlt factE 4 rfl _ e).1; omega
    · omega)
  have HT1 := Lib.hid (take37 sClaim s true bR w0 _ _ S h0 (HOF.out _ _ _ _ _ _ S))
  rw [← hr0, ← hk0] at HT1
  have HO1 := Lib.hid (HOF.out _ _ _ _ _ _ S)
  clear S hr0 hk0
  go_wp2_with fail
  refine (HT1.out).mono ?_
  rintro e w2 ⟨rfl, z2, S⟩
  clear HT1
  obtain ⟨⟨y0, y1⟩, y2, y3⟩ := S.two 0
  have S2 : St w0 (w2.setCell ⟨bR, 1, none⟩ (.bool k0)) [rdr bR r0 k0, .kept w bR, .box bx #[.slice none 0 0] 42, .box (bx + 1) #[.slice none 0 0] 42, .owns factE (bx + 2) (fun b => bx + 2 ≤ b) (.slice none 0 0) []] := S.set21 0 rfl (.bool k0) h0 HO1.out
  have z3 : bx + 2 ≤ (w2.setCell ⟨bR, 1, none⟩ (.bool k0)).heap.size := by simp; omega
  clear S HO1 HOF
  go_upto_block 0 with fail
  go_cut [] (fun W => ∃ (fs : List Fc) (r : Bs) (ok : Bool) (o : Value), (ok = true → claimO s = some fs) ∧ (ok = false → claimO s = none) ∧ fs.length ≤ s.length ∧ bx + 2 ≤ W.heap.size ∧ St w0 W [rdr bR r ok, .kept w bR, .box bx #[.slice none 0 0] 42, .box (bx + 1) #[o] 42, .owns factE (bx + 2) (fun b => bx + 2 ≤ b) o fs])
  case first =>
    refine S2.genC (z := bx + 2) z3 ?_
    clear S2 z3 y0 y1 y2 y3 z2 z1
    intro w3 z3 S3
    go_wp2_with fail
    go_loopg [] (if k0 = true then r0.length + 1 else 0) (fun m wr => ∃ (fs : List Fc) (r : Bs) (ok : Bool) (o : Value), m = (if ok = true then r.length + 1 else 0) ∧ Hid (clI s fs r ok) ∧ r.length ≤ s.length ∧ (ok = true → fs.length + r.length ≤ s.length) ∧ fs.length ≤ s.length ∧ bx + 2 ≤ wr.heap.size ∧
      St w0 wr [rdr bR r ok, .kept w bR, .box bx #[.slice none 0 0] 42, .box (bx + 1) #[o] 42, .owns factE (bx + 2) (fun b => bx + 2 ≤ b) o fs])
    case atStart => exact ⟨[], r0, k0, _, rfl, HI, hb, fun _ => by simpa using hb, by simp, z3, S3⟩
    case round =>
      clear S3 HI
      obtain ⟨fs, r, ok, o, hm, HI, hr, hn, hns, zr, S⟩ := hrel
      obtain ⟨⟨y0, y1⟩, y2, y3⟩ := S.two 0
      cases ok with
      | false =>
        have h2 := HI.out.2 rfl
        go_wp2_with fail
        go_meet
        case rel => exact ⟨fs, r, false, o, (fun h => by cases h), (fun _ => h2), hns, zr, S⟩
      | true =>
        cases r with
        | nil =>
          have h2 := HI.out.fin.1 rfl
          go_wp2_with fail
          go_meet
          case rel => exact ⟨fs, [], true, o, (fun _ => h2), (fun h => by cases h), hns, zr, S⟩
        | cons a r =>
          have HNE := Lib.hid (show a :: r ≠ [] by simp)
          have HNO := Lib.hid (hn rfl)
          obtain ⟨ro, rsp, rfl, _, _⟩ := (S.owns factE 4).row (fun b h => h)
          obtain ⟨u0, u1⟩ := S.one 3
          obtain ⟨Z, hZ⟩ : ∃ z, z = wr.heap.size := ⟨_, rfl⟩
          have HOW := Lib.hid (fun c (hc : (Value.slice ro fs.length (fs.length + rsp)).ownBlock = some c) => S.ownlt factE 4 rfl c hc)
          rw [← hZ] at HOW
          have S0 := (S.pick [0, 1, 2, 3]).add (.owns factE (bx + 2) (fun b => bx + 2 ≤ b ∧ b < Z) (.slice ro fs.length (fs.length + rsp)) fs) (own_tight (S.owns factE 4) (fun b h hl => ⟨h, by omega⟩))
          have HO := Lib.hid (show offAll bR [Fct.kept w bR, .box bx #[.slice none 0 0] 42, .box (bx + 1) #[.slice ro fs.length (fs.length + rsp)] 42, .owns factE (bx + 2) (fun b => bx + 2 ≤ b ∧ b < Z) (.slice ro fs.length (fs.length + rsp)) fs] by
            have h1 := HBX.out
            simp only [offAll, Fct.box, Fct.kept, Fct.owns, and_true]
            refine ⟨by simp, by omega, by omega, fun e => ?_⟩
            rcases e with e | e
            · have := (HOW.out _ e).1; omega
            · omega)
          have HZ := Lib.hid hZ
          clear S
          have S : St w0 wr [rdr bR (a :: r) true, .kept w bR, .box bx #[.slice none 0 0] 42, .box (bx + 1) #[.slice ro fs.length (fs.length + rsp)] 42, .owns factE (bx + 2) (fun b => bx + 2 ≤ b ∧ b < Z) (.slice ro fs.length (fs.length + rsp)) fs] := S0
          clear S0 hZ
          have HS := Lib.hid S
          obtain ⟨r1, hr1⟩ : ∃ q, q = gpR fs.isEmpty (a :: r) := ⟨_, rfl⟩
          obtain ⟨k1, hk1⟩ : ∃ q, q = gpB fs.isEmpty (a :: r) := ⟨_, rfl⟩
          have HRK := Lib.hid (And.intro hr1 hk1)
          clear hr1 hk1
          go_upto_if 24 with fail
          go_cut [] (fun W => wr.heap.size ≤ W.heap.size ∧ St w0 W [rdr bR r1 k1, .kept w bR, .box bx #[.slice none 0 0] 42, .box (bx + 1) #[.slice ro fs.length (fs.length + rsp)] 42, .owns factE (bx + 2) (fun b => bx + 2 ≤ b ∧ b < Z) (.slice ro fs.length (fs.length + rsp)) fs])
          case first =>
            by_cases he : fs = []
            · have he2 : fs.isEmpty = true := by rw [he]; rfl
              have hl : ¬ 0 < fs.length := by rw [he]; simp
              have e1 : r1 = a :: r := by rw [HRK.out.1, he2]; rfl
              have e2 : k1 = true := by rw [HRK.out.2, he2]; rfl
              clear S hn he
              go_wp2_with fail
              go_meet
              case rel => rw [e1, e2]; exact ⟨Nat.le_refl _, HS.out⟩
            · have he2 : fs.isEmpty = false := by cases fs; exact absurd rfl he; rfl
              have hl : 0 < fs.length := List.length_pos_iff.2 he
              have e1 : r1 = tkR [32, 124] (a :: r) := by rw [HRK.out.1, he2]; rfl
              have e2 : k1 = tkB [32, 124] (a :: r) := by rw [HRK.out.2, he2]; rfl
              have HT := Lib.hid (take37 [32, 124] (a :: r) true bR w0 _ _ S h0 HO.out)
              rw [← e1, ← e2] at HT
              clear S hn he e1 e2 he2
              go_wp2_with fail
              refine (HT.out).mono ?_
              rintro e w5 ⟨rfl, z5, S⟩
              clear HT y0 y1 y2 y3
              obtain ⟨⟨y0, y1⟩, y2, y3⟩ := S.two 0
              have S6 : St w0 (w5.setCell ⟨bR, 1, none⟩ (.bool k1)) [rdr bR r1 k1, .kept w bR, .box bx #[.slice none 0 0] 42, .box (bx + 1) #[.slice ro fs.length (fs.length + rsp)] 42, .owns factE (bx + 2) (fun b => bx + 2 ≤ b ∧ b < Z) (.slice ro fs.length (fs.length + rsp)) fs] := S.set21 0 rfl (.bool k1) h0 HO.out
              have HS6 := Lib.hid S6
              clear S S6
              go_wp2_with fail
              go_meet
              case rel => exact ⟨by simp; exact z5, HS6.out⟩
          case rest =>
            clear HS S y0 y1 y2 y3 u0 u1 hn
            obtain ⟨z5, S⟩ := hcut
            have HT := Lib.hid (take37 [32] r1 k1 bR w0 _ _ S h0 HO.out)
            clear S
            go_upto_region 6 with fail
            go_cut [] (fun W => wr.heap.size ≤ W.heap.size ∧ St w0 W [rdr bR (tkR [32] r1) (tkB [32] r1 && k1), .kept w bR, .box bx #[.slice none 0 0] 42, .box (bx + 1) #[.slice ro fs.length (fs.length + rsp)] 42, .owns factE (bx + 2) (fun b => bx + 2 ≤ b ∧ b < Z) (.slice ro fs.length (fs.length + rsp)) fs])
            case first =>
              go_wp2_with fail
              refine (HT.out).mono ?_
              rintro e w6 ⟨rfl, z6, S⟩
              clear HT
              obtain ⟨⟨y0, y1⟩, y2, y3⟩ := S.two 0
              have HS6 := Lib.hid (show ∀ b, b = (tkB [32] r1 && k1) → St w0 (w6.setCell ⟨bR, 1, none⟩ (.bool b)) [rdr bR (tkR [32] r1) (tkB [32] r1 && k1), .kept w bR, .box bx #[.slice none 0 0] 42, .box (bx + 1) #[.slice ro fs.length (fs.length + rsp)] 42, .owns factE (bx + 2) (fun b => bx + 2 ≤ b ∧ b < Z) (.slice ro fs.length (fs.length + rsp)) fs] by
                intro b hb
                rw [← hb]
                exact S.set21 0 rfl (.bool b) h0 HO.out)
              clear S
              cases hq : tkB [32] r1 with
              | true =>
                go_wp2_with fail
                go_meet
                case rel => exact ⟨by simp; omega, HS6.out k1 (by rw [hq]; rfl)⟩
              | false =>
                go_wp2_with fail
                go_meet
                case rel => exact ⟨by simp; omega, HS6.out false (by rw [hq]; rfl)⟩
            case rest =>
              clear HT z5
              obtain ⟨z6, S⟩ := hcut
              obtain ⟨wb, hwb⟩ : ∃ W, W = wc := ⟨_, rfl⟩
              subst hwb
              obtain ⟨r2, hr2⟩ : ∃ q, q = tkR [32] r1 := ⟨_, rfl⟩
              obtain ⟨k2, hk2⟩ : ∃ q, q = (tkB [32] r1 && k1) := ⟨_, rfl⟩
              rw [← hr2, ← hk2] at S
              have HL2 := Lib.hid (show r2.length ≤ (a :: r).length ∧ (k2 = true → r2.length + 1 ≤ (a :: r).length) by
                have h1 := gpR_le fs.isEmpty (a :: r)
                rw [← HRK.out.1] at h1
                have h2 := tkR_le [32] r1
                refine ⟨by rw [hr2]; omega, fun hk => ?_⟩
                rw [hk2] at hk
                have h3 := tk1_lt (show tkB [32] r1 = true by simp at hk; exact hk.1)
                rw [hr2]; omega)
              have HKK := Lib.hid (show k2 = true → k1 = true from fun hk => by rw [hk2] at hk; simp at hk; exact hk.2)
              have hl2 := HL2.out.1
              have HC := Lib.hid (term39 (r2.length + 1) r2 k2 1 bR w0 wb (by omega) (S.pick [0]) h0 HG.out (by omega) (by omega))
              rw [show ((1 : Nat) : Int) = 1 from rfl] at HC
              have HS := Lib.hid S
              clear S
              go_wp2_with fail
              refine (HC.out).mono ?_
              rintro e w7 ⟨tL, kL, spL, r3, k3, rfl, htL, hqL, hr3, hz7, SR⟩
              obtain ⟨b4, hb4⟩ : ∃ b, b = w7.heap.size := ⟨_, rfl⟩
              have S9 := (((HS.out.drop).over HO.out SR.bel (SR.kept 1)).add (.treeP (fun b => wb.heap.size ≤ b ∧ b < b4) (.agg #[.int .i64 tL.head, .slice kL tL.kids.length (tL.kids.length + spL)]) tL) (htL.mono fun b h hl => ⟨h, by omega⟩)).cons (rdr bR r3 k3) (SR.get 0)
              have HQL := Lib.hid hqL
              have HR3 := Lib.hid hr3
              have S10 := S9.box hb4.symm #[.bool false, .int .i64 tL.head, .slice kL tL.kids.length (tL.kids.length + spL), .int .i64 0, .slice none 0 0] 53
              have HB4 := Lib.hid (show bx + 1 < b4 ∧ wb.heap.size ≤ b4 ∧ w7.heap.size = b4 from ⟨by omega, by omega, hb4.symm⟩)
              have hz8 : (w7.alloc (.cells #[.bool false, .int .i64 tL.head, .slice kL tL.kids.length (tL.kids.length + spL), .int .i64 0, .slice none 0 0] 53)).heap.size = b4 + 1 := by simp [hb4]
              clear HC HS SR S9 htL hqL hr3
              go_upto_region 8 with fail
              rw [← hb4]
              refine S10.genC (z := b4 + 1) (by omega) ?_
              clear S10 hz8 hb4
              intro w8 z8 S
              have HO4 := Lib.hid (show ∀ (W : World) (rr : Bs) (kk : Bool) (cs : Array Value), St w0 W [rdr bR rr kk, .kept w bR, .box bx #[.slice none 0 0] 42, .box (bx + 1) #[.slice ro fs.length (fs.length + rsp)] 42, .owns factE (bx + 2) (fun b => bx + 2 ≤ b ∧ b < Z) (.slice ro fs.length (fs.length + rsp)) fs, .treeP (fun b => wb.heap.size ≤ b ∧ b < b4) (.agg #[.int .i64 tL.head, .slice kL tL.kids.length (tL.kids.length + spL)]) tL, .box b4 cs 53] →
                  offAll bR [Fct.kept w bR, .box bx #[.slice none 0 0] 42, .box (bx + 1) #[.slice ro fs.length (fs.length + rsp)] 42, .owns factE (bx + 2) (fun b => bx + 2 ≤ b ∧ b < Z) (.slice ro fs.length (fs.length + rsp)) fs, .treeP (fun b => wb.heap.size ≤ b ∧ b < b4) (.agg #[.int .i64 tL.head, .slice kL tL.kids.length (tL.kids.length + spL)]) tL, .box b4 cs 53] by
                intro W rr kk cs S
                have h1 := HBX.out; have h2 := HB4.out
                simp only [offAll, Fct.box, Fct.kept, Fct.owns, Fct.treeP, and_true]
                have h3 := HZ.out
                refine ⟨by simp, by omega, by omega, fun e => ?_, by omega, by omega⟩
                rcases e with e | e
                · have := (HOW.out _ e).1; omega
                · omega)
              have OF4 := Lib.hid (show ∀ (rr : Bs) (kk : Bool) (cs : Array Value), offs b4 6 [rdr bR rr kk, Fct.kept w bR, .box bx #[.slice none 0 0] 42, .box (bx + 1) #[.slice ro fs.length (fs.length + rsp)] 42, .owns factE (bx + 2) (fun b => bx + 2 ≤ b ∧ b < Z) (.slice ro fs.length (fs.length + rsp)) fs, .treeP (fun b => wb.heap.size ≤ b ∧ b < b4) (.agg #[.int .i64 tL.head, .slice kL tL.kids.length (tL.kids.length + spL)]) tL, .box b4 cs 53] by
                intro rr kk cs
                have h1 := HBX.out; have h2 := HB4.out; have h3 := HZ.out
                simp only [offs, offAll, rdr, Fct.box, Fct.kept, Fct.owns, Fct.treeP, and_true]
                refine ⟨by omega, by omega, by omega, by omega, fun e => ?_, by omega⟩
                rcases e with e | e
                · have := (HOW.out _ e).2; omega
                · omega)
              have HT3 := Lib.hid (take37 [33] r3 k3 bR w0 _ _ S h0 (HO4.out _ _ _ _ S))
              clear S
              go_wp2_with fail
              refine (HT3.out).mono ?_
              rintro e w9 ⟨rfl, z9, S⟩
              clear HT3
              obtain ⟨n0, n1⟩ := S.cell 6 0 rfl
              have S11 := S.setC 6 rfl 0 (.bool (tkB [33] r3)) (by have := HBX.out; have := HB4.out; omega) (by
                exact OF4.out _ _ _)
              have S12 : St w0 (w9.setCell ⟨b4, 0, none⟩ (.bool (tkB [33] r3))) [rdr bR (tkR [33] r3) k3, .kept w bR, .box bx #[.slice none 0 0] 42, .box (bx + 1) #[.slice ro fs.length (fs.length + rsp)] 42, .owns factE (bx + 2) (fun b => bx + 2 ≤ b ∧ b < Z) (.slice ro fs.length (fs.length + rsp)) fs, .treeP (fun b => wb.heap.size ≤ b ∧ b < b4) (.agg #[.int .i64 tL.head, .slice kL tL.kids.length (tL.kids.length + spL)]) tL, .box b4 #[.bool (tkB [33] r3), .int .i64 tL.head, .slice kL tL.kids.length (tL.kids.length + spL), .int .i64 0, .slice none 0 0] 53] := S11
              have z12 : w8.heap.size ≤ (w9.setCell ⟨b4, 0, none⟩ (.bool (tkB [33] r3))).heap.size := by simp; exact z9
              clear S S11 z9
              go_upto_region 9 with fail
              refine S12.genC (z := w8.heap.size) z12 ?_
              clear S12 z12 n0 n1
              intro wd zd S
              obtain ⟨r4, hr4⟩ : ∃ q, q = tkR [33] r3 := ⟨_, rfl⟩
              obtain ⟨r5, hr5⟩ : ∃ q, q = tkR [61] r4 := ⟨_, rfl⟩
              obtain ⟨k5, hk5⟩ : ∃ q, q = (tkB [61] r4 && k3) := ⟨_, rfl⟩
              rw [← hr4] at S
              have HT5 := Lib.hid (take37 [61] r4 k3 bR w0 _ _ S h0 (HO4.out _ _ _ _ S))
              have HO5 := Lib.hid (HO4.out _ _ _ _ S)
              rw [← hr5] at HT5
              have HR45 := Lib.hid (And.intro hr4 (And.intro hr5 hk5))
              clear S hr4 hr5 hk5
              go_cut [] (fun W => w8.heap.size ≤ W.heap.size ∧ St w0 W [rdr bR r5 k5, .kept w bR, .box bx #[.slice none 0 0] 42, .box (bx + 1) #[.slice ro fs.length (fs.length + rsp)] 42, .owns factE (bx + 2) (fun b => bx + 2 ≤ b ∧ b < Z) (.slice ro fs.length (fs.length + rsp)) fs, .treeP (fun b => wb.heap.size ≤ b ∧ b < b4) (.agg #[.int .i64 tL.head, .slice kL tL.kids.length (tL.kids.length + spL)]) tL, .box b4 #[.bool (tkB [33] r3), .int .i64 tL.head, .slice kL tL.kids.length (tL.kids.length + spL), .int .i64 0, .slice none 0 0] 53])
              case first =>
                go_wp2_with fail
                refine (HT5.out).mono ?_
                rintro e w10 ⟨rfl, z10, S⟩
                clear HT5
                obtain ⟨⟨y0, y1⟩, y2, y3⟩ := S.two 0
                have HS6 := Lib.hid (show ∀ b, b = k5 → St w0 (w10.setCell ⟨bR, 1, none⟩ (.bool b)) [rdr bR r5 k5, .kept w bR, .box bx #[.slice none 0 0] 42, .box (bx + 1) #[.slice ro fs.length (fs.length + rsp)] 42, .owns factE (bx + 2) (fun b => bx + 2 ≤ b ∧ b < Z) (.slice ro fs.length (fs.length + rsp)) fs, .treeP (fun b => wb.heap.size ≤ b ∧ b < b4) (.agg #[.int .i64 tL.head, .slice kL tL.kids.length (tL.kids.length + spL)]) tL, .box b4 #[.bool (tkB [33] r3), .int .i64 tL.head, .slice kL tL.kids.length (tL.kids.length + spL), .int .i64 0, .slice none 0 0] 53] by
                  intro b hb
                  rw [← hb]
                  exact S.set21 0 rfl (.bool b) h0 HO5.out)
                clear S
                have HK5 := Lib.hid (HR45.out.2.2)
                cases hq : tkB [61] r4 with
                | true =>
                  go_wp2_with fail
                  go_meet
                  case rel => exact ⟨by simp; omega, HS6.out k3 (by rw [HK5.out, hq]; rfl)⟩
                | false =>
                  go_wp2_with fail
                  go_meet
                  case rel => exact ⟨by simp; omega, HS6.out false (by rw [HK5.out, hq]; rfl)⟩
              case rest =>
                clear HT5 zd
                obtain ⟨zd, S⟩ := hcut
                have hl3 := HR3.out
                have hl5 : r5.length ≤ r3.length := by
                  have h1 := tkR_le [33] r3; rw [← HR45.out.1] at h1
                  have h2 := tkR_le [61] r4; rw [← HR45.out.2.1] at h2
                  omega
                have HC := Lib.hid (term39 (r5.length + 1) r5 k5 1 bR w0 _ (by omega) (S.pick [0]) h0 HG.out (by omega) (by omega))
                rw [show ((1 : Nat) : Int) = 1 from rfl] at HC
                have HS := Lib.hid S
                clear S
                go_wp2_with fail
                refine (HC.out).mono ?_
                rintro e we ⟨tR, kR, spR, r6, k6, rfl, htR, hqR, hr6, hze, SR⟩
                have S13 := (((HS.out.drop).over HO5.out SR.bel (SR.kept 1)).add (.treeP (fun b => wc.heap.size ≤ b) (.agg #[.int .i64 tR.head, .slice kR tR.kids.length (tR.kids.length + spR)]) tR) htR).cons (rdr bR r6 k6) (SR.get 0)
                have HQR := Lib.hid hqR
                have HR6 := Lib.hid (show r6.length ≤ r3.length ∧ wr.heap.size ≤ we.heap.size ∧ b4 < wc.heap.size ∧ wc.heap.size ≤ we.heap.size from ⟨by omega, by have := HB4.out; omega, by omega, hze⟩)
                have OF6 := Lib.hid (show ∀ (cs : Array Value), offs b4 6 [rdr bR r6 k6, .kept w bR, .box bx #[.slice none 0 0] 42, .box (bx + 1) #[.slice ro fs.length (fs.length + rsp)] 42, .owns factE (bx + 2) (fun b => bx + 2 ≤ b ∧ b < Z) (.slice ro fs.length (fs.length + rsp)) fs, .treeP (fun b => wb.heap.size ≤ b ∧ b < b4) (.agg #[.int .i64 tL.head, .slice kL tL.kids.length (tL.kids.length + spL)]) tL, .box b4 cs 53, .treeP (fun b => wc.heap.size ≤ b) (.agg #[.int .i64 tR.head, .slice kR tR.kids.length (tR.kids.length + spR)]) tR] by
                  intro cs
                  have h1 := HBX.out; have h2 := HB4.out; have h3 := HZ.out; have h4 := HR6.out
                  simp only [offs, offAll, rdr, Fct.box, Fct.kept, Fct.owns, Fct.treeP, and_true]
                  refine ⟨by omega, by omega, by omega, by omega, fun e => ?_, by omega, by omega⟩
                  rcases e with e | e
                  · have := (HOW.out _ e).2; omega
                  · omega)
                have h0b : w0.heap.size ≤ b4 := by have := HBX.out; have := HB4.out; omega
                obtain ⟨n3, m3⟩ := S13.cell 6 3 rfl
                obtain ⟨n4, m4⟩ := S13.cell 6 4 rfl
                have S14 : St w0 ((we.setCell ⟨b4, 3, none⟩ (.int .i64 tR.head)).setCell ⟨b4, 4, none⟩ (.slice kR tR.kids.length (tR.kids.length + spR))) [rdr bR r6 k6, .kept w bR, .box bx #[.slice none 0 0] 42, .box (bx + 1) #[.slice ro fs.length (fs.length + rsp)] 42, .owns factE (bx + 2) (fun b => bx + 2 ≤ b ∧ b < Z) (.slice ro fs.length (fs.length + rsp)) fs, .treeP (fun b => wb.heap.size ≤ b ∧ b < b4) (.agg #[.int .i64 tL.head, .slice kL tL.kids.length (tL.kids.length + spL)]) tL, .box b4 #[.bool (tkB [33] r3), .int .i64 tL.head, .slice kL tL.kids.length (tL.kids.length + spL), .int .i64 tR.head, .slice kR tR.kids.length (tR.kids.length + spR)] 53, .treeP (fun b => wc.heap.size ≤ b) (.agg #[.int .i64 tR.head, .slice kR tR.kids.length (tR.kids.length + spR)]) tR] := (S13.setC 6 rfl 3 (.int .i64 tR.head) h0b (OF6.out _)).setC 6 rfl 4 (.slice kR tR.kids.length (tR.kids.length + spR)) h0b (OF6.out _)
                have z14 : we.heap.size ≤ ((we.setCell ⟨b4, 3, none⟩ (.int .i64 tR.head)).setCell ⟨b4, 4, none⟩ (.slice kR tR.kids.length (tR.kids.length + spR))).heap.size := by simp
                clear S13 HC HS htR hqR hr6 hze SR
                go_upto_region 11 with fail
                refine S14.genC (z := we.heap.size) z14 ?_
                clear S14 z14 n3 m3 n4 m4
                intro wf zf S
                obtain ⟨u0, u1⟩ := S.one 3
                obtain ⟨a0, c0⟩ := S.cell 6 0 rfl
                obtain ⟨a1, c1⟩ := S.cell 6 1 rfl
                obtain ⟨a2, c2⟩ := S.cell 6 2 rfl
                obtain ⟨a3, c3⟩ := S.cell 6 3 rfl
                obtain ⟨a4, c4⟩ := S.cell 6 4 rfl
                have hno := HNO.out
                have HXE := Lib.hid (show factE.is (fun b => wb.heap.size ≤ b) wf [.bool (tkB [33] r3), .int .i64 tL.head, .slice kL tL.kids.length (tL.kids.length + spL), .int .i64 tR.head, .slice kR tR.kids.length (tR.kids.length + spR)] (⟨tkB [33] r3, tL, tR⟩ : Fc) from ⟨kL, spL, kR, spR, rfl, (S.treeP 5 rfl).mono (fun b (h : wb.heap.size ≤ b ∧ b < b4) _ => h.1), (S.treeP 7 rfl).mono (fun b (h : wc.heap.size ≤ b) _ => by have := HR6.out; have := HB4.out; omega)⟩)
                go_wp2_with (at_builtin; refine wpList_app rfl (.tmp 62) (.tmp 64) 40 rfl factE S 4 rfl (x := ⟨tkB [33] r3, tL, tR⟩) (q := fun b => wb.heap.size ≤ b) (p' := fun b => bx + 2 ≤ b) HXE.out Tryz.underlying40 gi gz0 gz1 gz2 rfl rfl rfl rfl ?c1 ?c2 ?c3 ?c4 ?c5 ?c6 ?c7 ?_)
                case c1 => unfold maxLen; simp at hno; omega
                case c2 => simp at hno; omega
                case c3 => have := HR6.out; have := HZ.out; omega
                case c4 => have := HBX.out; omega
                case c5 =>
                  intro bb h1 h2 h3
                  have h4 := (HOW.out bb h1); have h5 := HBX.out; have h6 := HB4.out; have h7 := HZ.out; have h8 := HR6.out
                  simp only [offs, offAll, rdr, Fct.box, Fct.kept, Fct.owns, Fct.treeP, and_true]
                  omega
                case c6 => intro bb h1 h2; have h4 := (HOW.out bb h2); have := HZ.out; have := HB4.out; omega
                case c7 => intro bb h1; have := HZ.out; have := HB4.out; rcases h1 with h1 | h1; exact h1.1; omega
                intro gg cap w15 S15 z15 hgl hgg
                obtain ⟨v0, v1⟩ := S15.one 3
                have hgb : bx + 2 ≤ gg := (S15.ownlt factE 4 rfl gg rfl).1
                have S16 := (S15.set1 3 rfl (.slice (some ⟨gg, 0, none⟩) (fs.length + 1) cap) (by have := HBX.out; omega) (by
                  have h5 := HBX.out; have h6 := HB4.out; have h7 := HZ.out; have h8 := HR6.out
                  simp only [fset, offs, offAll, rdr, Fct.box, Fct.kept, Fct.owns, Fct.treeP, and_true]
                  refine ⟨by omega, by omega, by omega, fun e => ?_, by omega, by omega, by omega⟩
                  rcases e with e | e
                  · have e' : gg = bx + 1 := by simpa [Value.ownBlock] using e
                    omega
                  · omega)).pick [0, 1, 2, 3, 4]
                have S17 := Lib.hid (show St w0 (w15.setCell ⟨bx + 1, 0, none⟩ (.slice (some ⟨gg, 0, none⟩) (fs.length + 1) cap)) [rdr bR r6 k6, .kept w bR, .box bx #[.slice none 0 0] 42, .box (bx + 1) #[.slice (some ⟨gg, 0, none⟩) (fs.length + 1) cap] 42, .owns factE (bx + 2) (fun b => bx + 2 ≤ b) (.slice (some ⟨gg, 0, none⟩) (fs.length + 1) cap) (fs ++ [⟨tkB [33] r3, tL, tR⟩])] from S16)
                have hk61 : k6 = true → k1 = true := fun h => by
                  have h5 := (HQR.out.1 h).1
                  have h3 := (HQL.out.1 (by rw [HR45.out.2.2] at h5; simp at h5; exact h5.2)).1
                  exact HKK.out h3
                have hk62 : k6 = true → k2 = true := fun h => by
                  have h5 := (HQR.out.1 h).1
                  exact (HQL.out.1 (by rw [HR45.out.2.2] at h5; simp at h5; exact h5.2)).1
                have hq1 : termQ 1 (tkR [32] r1) (tkB [32] r1 && k1) tL r3 k3 := by rw [← hr2, ← hk2]; exact HQL.out
                have hq2 : termQ 1 (tkR [61] (tkR [33] r3)) (tkB [61] (tkR [33] r3) && k3) tR r6 k6 := by
                  have := HQR.out
                  rw [HR45.out.2.1, HR45.out.2.2, HR45.out.1] at this; exact this
                have hlen6 : k6 = true → r6.length + 1 ≤ (a :: r).length := fun h => by
                  have h1 := HL2.out.2 (hk62 h); have h2 := HR3.out; have h3 := HR6.out.1; omega
                have HI2 := Lib.hid (HI.out.go (r6 := r6) (f := ⟨tkB [33] r3, tL, tR⟩) (k6 := k6) HNE.out hlen6
                  (fun hg hk => by rw [← HRK.out.1]; exact (fact_go hq1 hq2 (HRK.out.2.trans hg)).1 hk)
                  (fun hg hk => by rw [← HRK.out.1]; exact (fact_go hq1 hq2 (HRK.out.2.trans hg)).2 hk)
                  (fun hk => by rw [← HRK.out.2]; exact hk61 hk))
                have HL6 := Lib.hid hlen6
                have hz17 : bx + 2 ≤ w15.heap.size := by have := HR6.out; have := HZ.out; omega
                clear S15 S16 S u0 u1 a0 a1 a2 a3 a4 c0 c1 c2 c3 c4 hk61 hk62 hq1 hq2 hlen6
                go_wp2_with fail
                go_roundg (if k6 = true then r6.length + 1 else 0)
                case measure =>
                  rw [hm]
                  simp only [if_true]
                  split
                  · rename_i hk; have := HL6.out hk; simp at this ⊢; omega
                  · omega
                case rel =>
                  refine ⟨fs ++ [⟨tkB [33] r3, tL, tR⟩], r6, k6, _, rfl, HI2, ?_, fun hk => ?_, ?_, by simp; exact hz17, S17.out⟩
                  · have h1 := HR6.out.1; have h2 := HR3.out; have h3 := HL2.out.1; omega
                  · have := HL6.out hk
                    rw [List.length_append]; simp at hno this ⊢; omega
                  · rw [List.length_append]; simp at hno ⊢; omega
  case rest =>
    obtain ⟨fs, r, ok, o, h1, h2, hns, zr, S⟩ := hcut
    obtain ⟨ro, rsp, rfl, hrow, hml⟩ := (S.owns factE 4).row (fun b h => h)
    obtain ⟨v0, v1⟩ := S.one 2
    obtain ⟨u0, u1⟩ := S.one 3
    have SF := S.set1 2 rfl (.slice ro fs.length (fs.length + rsp)) (by have := HBX.out; omega) (by
      have := HBX.out
      simp only [offs, offAll, rdr, Fct.box, Fct.kept, Fct.owns, and_true]
      refine ⟨by omega, by omega, by omega, fun e => ?_⟩
      rcases e with e | e
      · have := (S.ownlt factE 4 rfl _ e).1; omega
      · omega)
    have HB := Lib.hid (SF.block 2)
    obtain ⟨ro', rsp', e, hrow', _⟩ := (SF.owns factE 4).row (fun b h => h)
    simp only [Value.slice.injEq, true_and] at e
    obtain ⟨e1, e2⟩ := e
    have e3 : rsp = rsp' := by omega
    subst e1; subst e3; clear e2
    have SG := Lib.hid ((SF.pick [0, 1]).add (.rowE factE (fun b => w.heap.size ≤ b) ro fs) (hrow'.keep (fun b h _ => ⟨rfl, by have := HBX.out; omega⟩)))
    clear S SF hrow hrow'
    go_wp2_with fail
    refine ret_box1 (.slice ro fs.length (fs.length + rsp)) bx 42 HB.out (fun w' q0 => by simp [results, Tryz.results31, go_sem, q0]) rfl ?_
    exact ⟨fs, ro, rsp, r, ok, rfl, h1, h2, hns, by simp; have := HBX.out; omega, SG.out⟩
end Go.Proofs.YtidgnbdlfngeaaaGreatDoor
