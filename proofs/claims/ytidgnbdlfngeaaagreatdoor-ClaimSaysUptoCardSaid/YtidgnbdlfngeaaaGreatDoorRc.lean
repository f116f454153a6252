/-
  Walks: the document's ReadClaim.
-/
import Derived.Test.YtidgnbdlfngeaaaGreatDoorRt
namespace Go.Proofs.YtidgnbdlfngeaaaGreatDoor
open Go.RowKit Go.Shelf
set_option linter.unusedVariables false
set_option linter.unusedSimpArgs false
set_option maxHeartbeats 400000
attribute [local go_sem 2000] index_sV sliceL_sV sliceR_sV
attribute [local go_sem 3000] index0_sV slice1_sV

def gpP (first : Bool) : Bs := if first = true then [32] else [32, 124, 32]
theorem gap_none {first : Bool} {r : Bs} (h : takeO (gpP first) r = none) : gpB first r = false ∨ factO (gpR first r) = none := by
  cases first with
  | true =>
    refine .inr ?_
    have h2 : takeO [32] r = none := h
    show factO r = none
    unfold factO; rw [h2]
  | false =>
    have h2 : takeO [32, 124, 32] r = none := h
    cases hb : gpB false r with
    | false => exact .inl rfl
    | true =>
      refine .inr ?_
      have hb2 : tkB [32, 124] r = true := by simpa [gpB] using hb
      unfold tkB at hb2
      obtain ⟨t, ht⟩ := Option.isSome_iff_exists.1 hb2
      have hr : gpR false r = t := by unfold gpR; rw [if_neg (by simp), (tk_some ht).1]
      have hs := take_say ht
      rw [hr]
      unfold factO
      cases t with
      | nil => rw [take_nil]
      | cons c t =>
        by_cases hc : 32 = c
        · subst hc
          rw [hs] at h2
          have := take_of [32, 124, 32] t
          rw [show [32, 124] ++ 32 :: t = [32, 124, 32] ++ t from rfl, this] at h2
          cases h2
        · rw [take_miss hc]
theorem gap_some {first : Bool} {r r' : Bs} (h : takeO (gpP first) r = some r') : gpB first r = true ∧ gpR first r = 32 :: r' := by
  have hs := take_say h
  cases first with
  | true => exact ⟨rfl, by show r = 32 :: r'; rw [hs]; rfl⟩
  | false =>
    have h2 : takeO [32, 124] r = some (32 :: r') := by rw [hs]; exact take_of [32, 124] (32 :: r')
    exact ⟨by show (false || tkB [32, 124] r) = true; rw [(tk_some h2).2]; rfl, by show (if false = true then r else tkR [32, 124] r) = _; rw [if_neg (by simp), (tk_some h2).1]⟩
theorem fact_none1 {r1 : Bs} (h : termO (fT r1) 1 r1 = none) : factO (32 :: r1) = none := by
  unfold factO; rw [take_hit]; simp only []; rw [h]
theorem fact_none2 {r1 r2 : Bs} {a : T} (h : termO (fT r1) 1 r1 = some (a, r2)) (h2 : takeO [61] (notO r2).2 = none) : factO (32 :: r1) = none := by
  unfold factO; rw [take_hit]; simp only []; rw [h]; simp only []; rw [h2]
theorem fact_none3 {r1 r2 r3 : Bs} {a : T} (h : termO (fT r1) 1 r1 = some (a, r2)) (h2 : takeO [61] (notO r2).2 = some r3) (h3 : termO (fT r3) 1 r3 = none) : factO (32 :: r1) = none := by
  unfold factO; rw [take_hit]; simp only []; rw [h]; simp only []; rw [h2]; simp only []; rw [h3]
theorem fact_some {r1 r2 r3 r4 : Bs} {a b : T} (h : termO (fT r1) 1 r1 = some (a, r2)) (h2 : takeO [61] (notO r2).2 = some r3) (h3 : termO (fT r3) 1 r3 = some (b, r4)) : factO (32 :: r1) = some (⟨(notO r2).1, a, b⟩, r4) := by
  unfold factO; rw [take_hit]; simp only []; rw [h]; simp only []; rw [h2]; simp only []; rw [h3]
theorem facI.noGap2 {s r : Bs} {fs : List Fc} (h : facI s fs r) (hr : r ≠ []) (hg : takeO (gpP fs.isEmpty) r = none) : factsL (s.length + 1) true s = none := by
  rcases gap_none hg with h1 | h1
  · exact h.noGap hr h1
  · exact h.noFact hr h1
theorem facI.no2 {s r r1 : Bs} {fs : List Fc} (h : facI s fs r) (hr : r ≠ []) (hg : takeO (gpP fs.isEmpty) r = some r1) (hf : factO (32 :: r1) = none) : factsL (s.length + 1) true s = none :=
  h.noFact hr (by rw [(gap_some hg).2]; exact hf)
theorem facI.go2 {s r r1 r2 : Bs} {fs : List Fc} {x : Fc} (h : facI s fs r) (hr : r ≠ []) (hg : takeO (gpP fs.isEmpty) r = some r1) (hf : factO (32 :: r1) = some (x, r2)) (hle : r2.length + 1 ≤ r.length) : facI s (fs ++ [x]) r2 :=
  h.go hr (gap_some hg).1 (by rw [(gap_some hg).2]; exact hf) hle
/-- what ReadClaim answers -/
def RCP (s : Bs) (w : World) (e : Ending) (w' : World) : Prop := ∃ (fs : List Fc) (ro : Option Addr) (sp : Nat) (ok : Bool), e = .returned (.tuple #[.agg #[.slice ro fs.length (fs.length + sp)], .bool ok]) ∧
  factE.Row (fun b => w.heap.size ≤ b) w' ro fs ∧ (ok = true → factsL (s.length + 1) true s = some fs) ∧ (ok = false → factsL (s.length + 1) true s = none) ∧ fs.length ≤ s.length ∧ Below w.heap.size w w'
theorem ret_c1 {P : Program} {fn : Func} {R : Ending → World → Prop} {a : Act} {w : World} (x v : Value) (b : Nat) (T : TypeId) (hb : w.heap[b]? = some (.cells #[x] T (0, 0)))
    (hres : ∀ w' : World, w'.cell? ⟨b, 0, none⟩ = some x → (results fn a.tmps).run P w' = .ok v w') (hd : a.defers = [])
    (hR : R (.returned v) w) : bodyPost P fn R .ret a w := bodyPost_ret (hres w (box1 hb).1) hd hR
theorem offB {bx : Nat} {o : Value} {fs : List Fc} {w W : World} {c : Value} {U : TypeId} {pp : Nat → Prop} (S : St w W [.box bx #[c] U, .box (bx + 1) #[o] U, .owns factE (bx + 2) pp o fs]) (hpp : ∀ b, pp b → bx + 2 ≤ b) :
    offs bx 0 [.box bx #[c] U, .box (bx + 1) #[o] U, .owns factE (bx + 2) pp o fs] := by
  simp only [offs, offAll, Fct.box, Fct.owns, and_true]
  refine ⟨by omega, fun e => ?_⟩
  rcases e with e | e
  · have := (S.ownlt factE 2 rfl _ e).1; omega
  · have := hpp _ e; omega

theorem stopC {s : Bs} {w W : World} {bx : Nat} {fs : List Fc} {ro : Option Addr} {rsp : Nat} {pp : Nat → Prop} (S : St w W [.box bx #[.slice none 0 0] 42, .box (bx + 1) #[.slice ro fs.length (fs.length + rsp)] 42, .owns factE (bx + 2) pp (.slice ro fs.length (fs.length + rsp)) fs]) (hpp : ∀ b, pp b → bx + 2 ≤ b) (hx : w.heap.size = bx) (hl : fs.length ≤ s.length) :
    (W.setCell ⟨bx, 0, none⟩ (.slice ro fs.length (fs.length + rsp))).heap[bx]? = some (.cells #[.slice ro fs.length (fs.length + rsp)] 42 (0, 0)) ∧
    (factsL (s.length + 1) true s = none → RCP s w (.returned (.tuple #[.agg #[.slice ro fs.length (fs.length + rsp)], .bool false])) (W.setCell ⟨bx, 0, none⟩ (.slice ro fs.length (fs.length + rsp)))) := by
  obtain ⟨ro', rsp', e0, hrow, hml⟩ := (own_tight (S.owns factE 2) (q := fun b => bx + 2 ≤ b) (fun b h _ => hpp b h)).row (fun b h => h)
  simp only [Value.slice.injEq, true_and] at e0
  obtain ⟨e1, e2⟩ := e0
  have e3 : rsp' = rsp := by omega
  subst e1; subst e3
  have SF := (S.set1 0 rfl (.slice ro fs.length (fs.length + rsp')) (by omega) (offB S hpp)).add (.rowE factE (fun b => bx + 2 ≤ b) ro fs) (hrow.keep (fun b (h : bx + 2 ≤ b) _ => ⟨Below.heap_setCell _ _ _ _ (show b ≠ bx by omega), h⟩))
  exact ⟨SF.block 0, fun hn => ⟨fs, ro, rsp', false, rfl, (SF.rowE factE 3 rfl).mono (fun b h _ => by omega), (fun h => by cases h), fun _ => hn, hl, SF.bel⟩⟩
set_option maxRecDepth 100000 in
set_option maxHeartbeats 8000000 in
theorem readClaim33 (s : Bs) (w : World) (hs : s.length ≤ 100000) : Calls Tryz.prog 33 #[sV s] w (RCP s w) := by
  obtain ⟨i47, gi, gz0, gz1, gz2⟩ := info_parts infoF
  obtain ⟨bx, hbx⟩ : ∃ b, b = w.heap.size := ⟨_, rfl⟩
  have S1 := (((St.start w).box hbx.symm #[.slice none 0 0] 42).box (b := bx + 1) (by simp [hbx]) #[.slice none 0 0] 42).add (.owns factE (bx + 2) (fun b => bx + 2 ≤ b) (.slice none 0 0) []) (Elt.Own.nil _ _ _ _)
  have HBX := Lib.hid (show w.heap.size = bx from hbx.symm)
  have hz1 : ((w.alloc (.cells #[.slice none 0 0] 42)).alloc (.cells #[.slice none 0 0] 42)).heap.size = bx + 2 := by simp [hbx]
  have hx0 : w.heap.size ≤ bx := by omega
  go_enter Tryz.func33, Tryz.ntmps33
  go_upto_block 0 with fail
  rw [← hbx]
  refine S1.genC (z := bx + 2) (by omega) ?_
  clear S1 hz1 hbx
  intro w1 z1 S1
  go_cut [0] (fun a W => ∃ (fs : List Fc) (o : Value), Hid (facI s fs []) ∧ fs.length ≤ s.length ∧ bx + 2 ≤ W.heap.size ∧ St w W [.box bx #[.slice none 0 0] 42, .box (bx + 1) #[o] 42, .owns factE (bx + 2) (fun b => bx + 2 ≤ b) o fs])
  case first =>
    go_wp2_with fail
    go_loopg [0] (s.length + 1) (fun m a wr => ∃ (fs : List Fc) (r : Bs) (o : Value), m = r.length + 1 ∧ a = sV r ∧ Hid (facI s fs r) ∧ fs.length + r.length ≤ s.length ∧ bx + 2 ≤ wr.heap.size ∧ St w wr [.box bx #[.slice none 0 0] 42, .box (bx + 1) #[o] 42, .owns factE (bx + 2) (fun b => bx + 2 ≤ b) o fs])
    case atStart => exact ⟨[], s, _, rfl, rfl, Lib.hid (facI.start s), by simp, z1, S1⟩
    case round =>
      clear S1
      obtain ⟨fs, r, o, hm, rfl, HI, hl, zr, S⟩ := hrel
      cases r with
      | nil =>
        go_wp2_with fail
        go_meet
        case rel => exact ⟨fs, o, HI, by simpa using hl, zr, S⟩
      | cons a r0 =>
      have hl0 : (0 : Int) < (r0.length : Int) + 1 := by omega
      obtain ⟨r, hr⟩ : ∃ r, r = a :: r0 := ⟨_, rfl⟩
      have HNE := Lib.hid (show r ≠ [] by rw [hr]; simp)
      have hm2 := hm
      rw [← hr] at hm2
      obtain ⟨ro, rsp, rfl, hrow, hml⟩ := (S.owns factE 2).row (fun b h => h)
      obtain ⟨v0, v1⟩ := S.one 1
      obtain ⟨y0, y1⟩ := S.one 0
      obtain ⟨gp, hgp⟩ : ∃ g, g = gpP fs.isEmpty := ⟨_, rfl⟩
      have hgl : gp.length ≤ 3 := by rw [hgp]; unfold gpP; split <;> simp
      have HGP := Lib.hid hgp
      clear hgp
      go_upto_if 18 with fail
      rw [← hr]
      rw [← hr] at HI hl
      obtain ⟨wq, hwq⟩ : ∃ W, W = wr := ⟨_, rfl⟩
      subst hwq
      go_cut [5] (fun x W => x = sV gp ∧ W = wq)
      case first =>
        clear hr
        cases fs with
        | nil =>
          go_wp2_with fail
          go_meet
          case rel => exact ⟨by rw [HGP.out]; rfl, rfl⟩
        | cons f fs =>
          have hf0 : 0 < (f :: fs).length := by simp
          go_wp2_with fail
          go_meet
          case rel => exact ⟨by rw [HGP.out]; rfl, rfl⟩
      case rest =>
        obtain ⟨rfl, hwc⟩ := hcut
        have hwc := hwc.symm
        subst hwc
        clear hr
        have hro := HNE.out
        have SF := Lib.hid ((S.set1 0 rfl (.slice ro fs.length (fs.length + rsp)) hx0 (offB S (fun b h => h))).add (.rowE factE (fun b => bx + 2 ≤ b) ro fs) (hrow.keep (fun b (h : bx + 2 ≤ b) _ => ⟨Below.heap_setCell _ _ _ _ (show b ≠ bx by omega), h⟩)))
        have FIN := Lib.hid (fun (hn : factsL (s.length + 1) true s = none) => (⟨fs, ro, rsp, false, rfl, (SF.out.rowE factE 3 rfl).mono (fun b h _ => by have := HBX.out; omega), (fun h => by cases h), fun _ => hn, by omega, SF.out.bel⟩ : RCP s w (.returned (.tuple #[.agg #[.slice ro fs.length (fs.length + rsp)], .bool false])) _))
        cases hg : takeO gp r with
        | none =>
          have HB := Lib.hid (HI.out.noGap2 HNE.out (by rw [← HGP.out]; exact hg))
          have HFB := Lib.hid (SF.out.block 0)
          clear S hrow
          by_cases hlen : r.length < gp.length
          · go_wp2_with fail
            refine ret_c1 (.slice ro fs.length (fs.length + rsp)) (.tuple #[.agg #[.slice ro fs.length (fs.length + rsp)], .bool false]) bx 42 HFB.out (fun w' q0 => by simp [results, Tryz.results33, go_sem, q0]) rfl ?_
            exact FIN.out HB.out
          · have hk : gp.length ≤ r.length := by omega
            have hne : r.take gp.length ≠ gp := by
              intro e
              rw [take_pre hk, if_pos e] at hg
              cases hg
            have hne2 : (r.take gp.length == gp) = false := by rw [beq_eq_false_iff_ne]; exact hne
            clear hne
            have hlen2 : ¬ ((r.length : Int) < gp.length) := by omega
            go_wp2_with fail
            refine ret_c1 (.slice ro fs.length (fs.length + rsp)) (.tuple #[.agg #[.slice ro fs.length (fs.length + rsp)], .bool false]) bx 42 HFB.out (fun w' q0 => by simp [results, Tryz.results33, go_sem, q0]) rfl ?_
            exact FIN.out HB.out
        | some r1 =>
          obtain ⟨hk, hrd, htk⟩ : gp.length ≤ r.length ∧ r.drop gp.length = r1 ∧ r.take gp.length = gp := by
            have h1 := take_say hg
            refine ⟨by rw [h1, List.length_append]; omega, by rw [h1]; simp, by rw [h1]; simp⟩
          have hne2 : (r.take gp.length == gp) = true := by rw [beq_iff_eq]; exact htk
          have hlen2 : ¬ ((r.length : Int) < gp.length) := by omega
          have hrl : r1.length + gp.length = r.length := by rw [take_say hg, List.length_append]; omega
          have hgp1 : 1 ≤ gp.length := by rw [HGP.out]; unfold gpP; split <;> simp
          have HG := Lib.hid (show takeO (gpP fs.isEmpty) r = some r1 by rw [← HGP.out]; exact hg)
          have HN1 : Hid (Calls Tryz.prog 48 #[sV r1, .int .i64 1] wq (RTP 1 r1 wq)) := Lib.hid (readTree48 (r1.length + 1) r1 1 wq (by omega) (by omega) (by omega))
          have HRL := Lib.hid (show r1.length + 1 ≤ r.length by omega)
          clear SF FIN hg htk hrl hgp1
          go_wp2_with fail
          refine (HN1.out).mono ?_
          rintro e w2 ⟨tL, kL, spL, r2, ok1, rfl, htL, hqL, hr2, hr2s, hb2⟩
          obtain ⟨b6, hb6⟩ : ∃ b, b = w2.heap.size := ⟨_, rfl⟩
          have S2 := ((S.pick [0, 1]).add (.owns factE (bx + 2) (fun b => bx + 2 ≤ b ∧ b < wq.heap.size) (.slice ro fs.length (fs.length + rsp)) fs) (own_tight (S.owns factE 2) (fun b h hl => ⟨h, hl⟩))).step hb2
          have S3 := (S2.add (.treeP (fun b => wq.heap.size ≤ b ∧ b < b6) (.agg #[.int .i64 tL.head, .slice kL tL.kids.length (tL.kids.length + spL)]) tL) (htL.mono (fun b h hl => ⟨h, by rw [hb6]; exact hl⟩))).box hb6.symm #[.int .i64 tL.head, .slice kL tL.kids.length (tL.kids.length + spL)] 45
          have S4 : St w (w2.alloc (.cells #[.int .i64 tL.head, .slice kL tL.kids.length (tL.kids.length + spL)] 45)) [.box bx #[.slice none 0 0] 42, .box (bx + 1) #[.slice ro fs.length (fs.length + rsp)] 42, .owns factE (bx + 2) (fun b => bx + 2 ≤ b ∧ b < wq.heap.size) (.slice ro fs.length (fs.length + rsp)) fs, .treeP (fun b => wq.heap.size ≤ b ∧ b < b6) (.agg #[.int .i64 tL.head, .slice kL tL.kids.length (tL.kids.length + spL)]) tL, .box b6 #[.int .i64 tL.head, .slice kL tL.kids.length (tL.kids.length + spL)] 45] := S3
          have hz4 : (w2.alloc (.cells #[.int .i64 tL.head, .slice kL tL.kids.length (tL.kids.length + spL)] 45)).heap.size = b6 + 1 := by simp [hb6]
          have HB6 := Lib.hid (show wq.heap.size ≤ b6 ∧ bx + 2 ≤ wq.heap.size from ⟨by have := hb2.size; omega, zr⟩)
          have HOW := Lib.hid (fun c (hc : (Value.slice ro fs.length (fs.length + rsp)).ownBlock = some c) => S.ownlt factE 2 rfl c hc)
          have HT1 := Lib.hid (And.intro hqL (And.intro hr2 hr2s))
          clear S S2 S3 hb2 htL hqL hr2 hr2s hrow v0 v1 y0 y1 hrd hne2 hlen2 HN1
          go_upto_region 9 with fail
          rw [← hb6]
          refine S4.genC (z := b6 + 1) (by omega) ?_
          clear S4 hz4 hb6
          intro w3 z3 S
          obtain ⟨v0, v1⟩ := S.one 1
          obtain ⟨y0, y1⟩ := S.one 0
          obtain ⟨⟨u0, u1⟩, u2, u3⟩ := S.two 4
          have HST := Lib.hid (stopC (s := s) (S.pick [0, 1, 2]) (fun b h => h.1) HBX.out (by omega))
          cases ok1 with
          | false =>
            have HB := Lib.hid (HI.out.no2 HNE.out HG.out (fact_none1 (HT1.out.1.2 rfl rfl (fT r1) (by unfold fT; omega))))
            clear S
            go_wp2_with fail
            refine ret_c1 (.slice ro fs.length (fs.length + rsp)) (.tuple #[.agg #[.slice ro fs.length (fs.length + rsp)], .bool false]) bx 42 HST.out.1 (fun w' q0 => by simp [results, Tryz.results33, go_sem, q0]) rfl ?_
            exact HST.out.2 HB.out
          | true =>
          have HL := Lib.hid ((HT1.out.1.1 rfl).2 (fT r1) (by unfold fT; omega))
          clear HST
          obtain ⟨b9, hb9⟩ : ∃ b, b = w3.heap.size := ⟨_, rfl⟩
          have S5 := (S.pick [0, 1, 2, 3]).box hb9.symm #[.bool false, .int .i64 tL.head, .slice kL tL.kids.length (tL.kids.length + spL), .int .i64 0, .slice none 0 0] 53
          have S6 : St w (w3.alloc (.cells #[.bool false, .int .i64 tL.head, .slice kL tL.kids.length (tL.kids.length + spL), .int .i64 0, .slice none 0 0] 53)) [.box bx #[.slice none 0 0] 42, .box (bx + 1) #[.slice ro fs.length (fs.length + rsp)] 42, .owns factE (bx + 2) (fun b => bx + 2 ≤ b ∧ b < wq.heap.size) (.slice ro fs.length (fs.length + rsp)) fs, .treeP (fun b => wq.heap.size ≤ b ∧ b < b6) (.agg #[.int .i64 tL.head, .slice kL tL.kids.length (tL.kids.length + spL)]) tL, .box b9 #[.bool false, .int .i64 tL.head, .slice kL tL.kids.length (tL.kids.length + spL), .int .i64 0, .slice none 0 0] 53] := S5
          have hz6 : (w3.alloc (.cells #[.bool false, .int .i64 tL.head, .slice kL tL.kids.length (tL.kids.length + spL), .int .i64 0, .slice none 0 0] 53)).heap.size = b9 + 1 := by simp [hb9]
          have HB9 := Lib.hid (show b6 + 1 ≤ b9 by omega)
          clear S S5
          go_upto_region 12 with fail
          rw [← hb9]
          refine S6.genC (z := b9 + 1) (by omega) ?_
          clear S6 hz6 hb9 v0 v1 y0 y1 u0 u1 u2 u3
          intro w4 z4 S
          obtain ⟨ng, hng⟩ : ∃ g, g = (notO r2).1 := ⟨_, rfl⟩
          obtain ⟨q, hq⟩ : ∃ g, g = (notO r2).2 := ⟨_, rfl⟩
          have HNQ := Lib.hid (And.intro hng hq)
          have hql : q.length ≤ r2.length := by
            have := congrArg List.length (notO_say r2)
            rw [List.length_append, ← hq] at this; omega
          obtain ⟨bb, hbb⟩ : ∃ b : Bool, b = decide (r2.head? = some 33) := ⟨_, rfl⟩
          have HBBB := Lib.hid hbb
          obtain ⟨wv, hwv⟩ : ∃ W, W = w4 := ⟨_, rfl⟩
          subst hwv
          go_cut [54] (fun x W => x = .bool bb ∧ W = wv)
          case first =>
            clear hbb
            have hkeep : (∃ r2', r2 = 33 :: r2') ∨ (r2 = []) ∨ (∃ c r2', r2 = c :: r2' ∧ c ≠ 33) := by
              cases r2 with
              | nil => exact .inr (.inl rfl)
              | cons c r2 =>
                by_cases hc : c = 33
                · exact .inl ⟨r2, by rw [hc]⟩
                · exact .inr (.inr ⟨c, r2, rfl, hc⟩)
            rcases hkeep with ⟨r2', rfl⟩ | rfl | ⟨c, r2', rfl, hc⟩
            · have hc1 : (((33 : UInt8).toNat : Int) == 33) = true := by decide
              have hl3 : (0 : Int) < (r2'.length : Int) + 1 := by omega
              go_wp2_with fail
              go_meet
              case rel => exact ⟨by rw [HBBB.out]; simp, rfl⟩
            · go_wp2_with fail
              go_meet
              case rel => exact ⟨by rw [HBBB.out]; simp, rfl⟩
            · have hc1 : ((c.toNat : Int) == 33) = false := by rw [beq_eq_false_iff_ne]; exact fun e => hc (u8_eq (by have : (33 : UInt8).toNat = 33 := rfl; omega))
              have hl3 : (0 : Int) < (r2'.length : Int) + 1 := by omega
              have HCC := Lib.hid hc
              clear hc
              go_wp2_with fail
              go_meet
              case rel => exact ⟨by rw [HBBB.out]; simp [HCC.out], rfl⟩
          case rest =>
          obtain ⟨rfl, hwc⟩ := hcut
          have hwc := hwc.symm
          subst hwc
          clear hbb
          go_upto_if 54 with fail
          go_cut [7] (fun x W => x = sV q ∧ b9 + 1 ≤ W.heap.size ∧ St w W [.box bx #[.slice none 0 0] 42, .box (bx + 1) #[.slice ro fs.length (fs.length + rsp)] 42, .owns factE (bx + 2) (fun b => bx + 2 ≤ b ∧ b < wq.heap.size) (.slice ro fs.length (fs.length + rsp)) fs, .treeP (fun b => wq.heap.size ≤ b ∧ b < b6) (.agg #[.int .i64 tL.head, .slice kL tL.kids.length (tL.kids.length + spL)]) tL, .box b9 #[.bool ng, .int .i64 tL.head, .slice kL tL.kids.length (tL.kids.length + spL), .int .i64 0, .slice none 0 0] 53])
          case first =>
            have hkeep : (∃ r2', r2 = 33 :: r2') ∨ (r2 = []) ∨ (∃ c r2', r2 = c :: r2' ∧ c ≠ 33) := by
              cases r2 with
              | nil => exact .inr (.inl rfl)
              | cons c r2 =>
                by_cases hc : c = 33
                · exact .inl ⟨r2, by rw [hc]⟩
                · exact .inr (.inr ⟨c, r2, rfl, hc⟩)
            rcases hkeep with ⟨r2', rfl⟩ | rfl | ⟨c, r2', rfl, hc⟩
            · rw [notO_33] at hng hq
              subst hng; subst hq
              obtain rfl : bb = true := by rw [HBBB.out]; simp
              have hl3 : (0 : Int) < (q.length : Int) + 1 := by omega
              obtain ⟨x0, x1⟩ := S.cell 4 0 rfl
              have S7 := S.setC 4 rfl 0 (.bool true) (by have := HBX.out; have := HB6.out; have := HB9.out; omega) (by
                have h5 := HBX.out; have h6 := HB6.out; have h9 := HB9.out
                simp only [offs, offAll, Fct.box, Fct.owns, Fct.treeP, and_true]
                refine ⟨by omega, by omega, fun e => ?_, by omega⟩
                rcases e with e | e
                · have := HOW.out _ e; omega
                · omega)
              have HS7 := Lib.hid S7
              clear S S7
              go_wp2_with fail
              go_meet
              case rel => exact ⟨rfl, by simp; exact z4, HS7.out⟩
            · have e1 : notO [] = (false, []) := by unfold notO; rw [take_nil]
              rw [e1] at hng hq
              subst hng; subst hq
              obtain rfl : bb = false := by rw [HBBB.out]; simp
              go_wp2_with fail
              go_meet
              case rel => exact ⟨rfl, z4, S⟩
            · have e1 : notO (c :: r2') = (false, c :: r2') := by unfold notO; rw [take_miss (fun e => hc e.symm)]
              rw [e1] at hng hq
              subst hng; subst hq
              obtain rfl : bb = false := by rw [HBBB.out]; simp [hc]
              clear hc
              go_wp2_with fail
              go_meet
              case rel => exact ⟨rfl, z4, S⟩
          case rest =>
            clear S z4 hng hq
            obtain ⟨rfl, z4, S⟩ := hcut
            obtain ⟨v0, v1⟩ := S.one 1
            obtain ⟨y0, y1⟩ := S.one 0
            have HST := Lib.hid (stopC (s := s) (S.pick [0, 1, 2]) (fun b h => h.1) HBX.out (by omega))
            have hsplit : (∃ q', q = 61 :: q') ∨ (q = []) ∨ (∃ c q', q = c :: q' ∧ c ≠ 61) := by
              cases q with
              | nil => exact .inr (.inl rfl)
              | cons c r2 =>
                by_cases hc : c = 61
                · exact .inl ⟨r2, by rw [hc]⟩
                · exact .inr (.inr ⟨c, r2, rfl, hc⟩)
            rcases hsplit with ⟨q', rfl⟩ | rfl | ⟨c, q', rfl, hc⟩
            rotate_left 1
            · have HB := Lib.hid (HI.out.no2 HNE.out HG.out (fact_none2 HL.out (by rw [← HNQ.out.2]; exact take_nil _)))
              clear S
              go_wp2_with fail
              refine ret_c1 (.slice ro fs.length (fs.length + rsp)) (.tuple #[.agg #[.slice ro fs.length (fs.length + rsp)], .bool false]) bx 42 HST.out.1 (fun w' q0 => by simp [results, Tryz.results33, go_sem, q0]) rfl ?_
              exact HST.out.2 HB.out
            · have HB := Lib.hid (HI.out.no2 HNE.out HG.out (fact_none2 HL.out (by rw [← HNQ.out.2]; exact take_miss (fun e => hc e.symm) _)))
              have hc1 : ((c.toNat : Int) != 61) = true := by rw [bne_iff_ne]; exact fun e => hc (u8_eq (by have : (61 : UInt8).toNat = 61 := rfl; omega))
              have hl3 : (((q'.length : Int) + 1) == 0) = false := by rw [beq_eq_false_iff_ne]; omega
              clear S hc
              go_wp2_with fail
              refine ret_c1 (.slice ro fs.length (fs.length + rsp)) (.tuple #[.agg #[.slice ro fs.length (fs.length + rsp)], .bool false]) bx 42 HST.out.1 (fun w' q0 => by simp [results, Tryz.results33, go_sem, q0]) rfl ?_
              exact HST.out.2 HB.out
            · have HTK := Lib.hid (show takeO [61] (notO r2).2 = some q' by rw [← HNQ.out.2]; exact take_hit _ _)
              have hc1 : (((61 : UInt8).toNat : Int) != 61) = false := by decide
              have hl3 : (((q'.length : Int) + 1) == 0) = false := by rw [beq_eq_false_iff_ne]; omega
              have hqq : q'.length + 1 ≤ r2.length := by simpa using hql
              have hr2s := HT1.out.2.1
              have hrl2 := HRL.out
              have HN2 : Hid (Calls Tryz.prog 48 #[sV q', .int .i64 1] wc (RTP 1 q' wc)) := Lib.hid (readTree48 (q'.length + 1) q' 1 wc (by omega) (by omega) (by omega))
              have HQL := Lib.hid (show q'.length + 1 ≤ r2.length ∧ r2.length + 1 ≤ r.length by omega)
              clear HST hqq hr2s hrl2
              go_wp2_with fail
              refine (HN2.out).mono ?_
              rintro e w5 ⟨tR, kR, spR, r4, ok2, rfl, htR, hqR, hr4, hr4s, hb5⟩
              obtain ⟨b10, hb10⟩ : ∃ b, b = w5.heap.size := ⟨_, rfl⟩
              have S2 := S.step hb5
              have S3 := (S2.add (.treeP (fun b => wc.heap.size ≤ b ∧ b < b10) (.agg #[.int .i64 tR.head, .slice kR tR.kids.length (tR.kids.length + spR)]) tR) (htR.mono (fun b h hl => ⟨h, by rw [hb10]; exact hl⟩))).box hb10.symm #[.int .i64 tR.head, .slice kR tR.kids.length (tR.kids.length + spR)] 45
              have S4 : St w (w5.alloc (.cells #[.int .i64 tR.head, .slice kR tR.kids.length (tR.kids.length + spR)] 45)) [.box bx #[.slice none 0 0] 42, .box (bx + 1) #[.slice ro fs.length (fs.length + rsp)] 42, .owns factE (bx + 2) (fun b => bx + 2 ≤ b ∧ b < wq.heap.size) (.slice ro fs.length (fs.length + rsp)) fs, .treeP (fun b => wq.heap.size ≤ b ∧ b < b6) (.agg #[.int .i64 tL.head, .slice kL tL.kids.length (tL.kids.length + spL)]) tL, .box b9 #[.bool ng, .int .i64 tL.head, .slice kL tL.kids.length (tL.kids.length + spL), .int .i64 0, .slice none 0 0] 53, .treeP (fun b => wc.heap.size ≤ b ∧ b < b10) (.agg #[.int .i64 tR.head, .slice kR tR.kids.length (tR.kids.length + spR)]) tR, .box b10 #[.int .i64 tR.head, .slice kR tR.kids.length (tR.kids.length + spR)] 45] := S3
              have hz4 : (w5.alloc (.cells #[.int .i64 tR.head, .slice kR tR.kids.length (tR.kids.length + spR)] 45)).heap.size = b10 + 1 := by simp [hb10]
              have HB10 := Lib.hid (show b9 + 1 ≤ wc.heap.size ∧ wc.heap.size ≤ b10 from ⟨z4, by have := hb5.size; omega⟩)
              have HT2 := Lib.hid (And.intro hqR (And.intro hr4 hr4s))
              clear S S2 S3 hb5 htR hqR hr4 hr4s v0 v1 y0 y1 HN2
              go_upto_region 18 with fail
              rw [← hb10]
              refine S4.genC (z := b10 + 1) (by omega) ?_
              clear S4 hz4 hb10
              intro w6 z6 S
              obtain ⟨v0, v1⟩ := S.one 1
              obtain ⟨y0, y1⟩ := S.one 0
              obtain ⟨⟨u0, u1⟩, u2, u3⟩ := S.two 6
              have HST := Lib.hid (stopC (s := s) (S.pick [0, 1, 2]) (fun b h => h.1) HBX.out (by omega))
              cases ok2 with
              | false =>
                have HB := Lib.hid (HI.out.no2 HNE.out HG.out (fact_none3 HL.out HTK.out (HT2.out.1.2 (by trivial) (by trivial) (fT q') (by unfold fT; omega))))
                clear S
                go_wp2_with fail
                refine ret_c1 (.slice ro fs.length (fs.length + rsp)) (.tuple #[.agg #[.slice ro fs.length (fs.length + rsp)], .bool false]) bx 42 HST.out.1 (fun w' q0 => by simp [results, Tryz.results33, go_sem, q0]) rfl ?_
                exact HST.out.2 HB.out
              | true =>
              have HFT := Lib.hid (fact_some HL.out HTK.out ((HT2.out.1.1 (by trivial)).2 (fT q') (by unfold fT; omega)))
              have HRR := Lib.hid (show r4.length + 1 ≤ r.length by have h1 := HT2.out.2.1; have h2 := HQL.out; omega)
              rw [← HNQ.out.1] at HFT
              have HI2 := Lib.hid (HI.out.go2 HNE.out HG.out HFT.out HRR.out)
              have hbm : w.heap.size ≤ b9 := by have := HBX.out; have := HB6.out; have := HB9.out; omega
              have OF := Lib.hid (show ∀ x y : Value, offs b9 4 [.box bx #[.slice none 0 0] 42, .box (bx + 1) #[.slice ro fs.length (fs.length + rsp)] 42, .owns factE (bx + 2) (fun b => bx + 2 ≤ b ∧ b < wq.heap.size) (.slice ro fs.length (fs.length + rsp)) fs, .treeP (fun b => wq.heap.size ≤ b ∧ b < b6) (.agg #[.int .i64 tL.head, .slice kL tL.kids.length (tL.kids.length + spL)]) tL, .box b9 #[.bool ng, .int .i64 tL.head, .slice kL tL.kids.length (tL.kids.length + spL), x, y] 53, .treeP (fun b => wc.heap.size ≤ b ∧ b < b10) (.agg #[.int .i64 tR.head, .slice kR tR.kids.length (tR.kids.length + spR)]) tR, .box b10 #[.int .i64 tR.head, .slice kR tR.kids.length (tR.kids.length + spR)] 45] by
                intro x y
                have h5 := HBX.out; have h6 := HB6.out; have h9 := HB9.out; have h10 := HB10.out
                simp only [offs, offAll, Fct.box, Fct.owns, Fct.treeP, and_true]
                refine ⟨by omega, by omega, fun e => ?_, by omega, by omega, by omega⟩
                rcases e with e | e
                · have := HOW.out _ e; omega
                · omega)
              have S7 : St w ((w6.setCell ⟨b9, 3, none⟩ (.int .i64 tR.head)).setCell ⟨b9, 4, none⟩ (.slice kR tR.kids.length (tR.kids.length + spR))) [.box bx #[.slice none 0 0] 42, .box (bx + 1) #[.slice ro fs.length (fs.length + rsp)] 42, .owns factE (bx + 2) (fun b => bx + 2 ≤ b ∧ b < wq.heap.size) (.slice ro fs.length (fs.length + rsp)) fs, .treeP (fun b => wq.heap.size ≤ b ∧ b < b6) (.agg #[.int .i64 tL.head, .slice kL tL.kids.length (tL.kids.length + spL)]) tL, .box b9 #[.bool ng, .int .i64 tL.head, .slice kL tL.kids.length (tL.kids.length + spL), .int .i64 tR.head, .slice kR tR.kids.length (tR.kids.length + spR)] 53, .treeP (fun b => wc.heap.size ≤ b ∧ b < b10) (.agg #[.int .i64 tR.head, .slice kR tR.kids.length (tR.kids.length + spR)]) tR, .box b10 #[.int .i64 tR.head, .slice kR tR.kids.length (tR.kids.length + spR)] 45] := (S.setC 4 rfl 3 (.int .i64 tR.head) hbm (OF.out _ _)).setC 4 rfl 4 (.slice kR tR.kids.length (tR.kids.length + spR)) hbm (OF.out _ _)
              obtain ⟨x0, x1⟩ := S.cell 4 3 rfl
              obtain ⟨x2, x3⟩ := S.cell 4 4 rfl
              clear S HST HI HG HL HFT HNQ
              have hz7 : b10 + 1 ≤ ((w6.setCell ⟨b9, 3, none⟩ (.int .i64 tR.head)).setCell ⟨b9, 4, none⟩ (.slice kR tR.kids.length (tR.kids.length + spR))).heap.size := by simp; exact z6
              go_upto_region 21 with fail
              refine S7.genC (z := b10 + 1) hz7 ?_
              clear S7 hz7 v0 v1 y0 y1 u0 u1 u2 u3 x0 x1 x2 x3 z6
              intro w7 z7 S
              obtain ⟨v0, v1⟩ := S.one 1
              obtain ⟨x0, x1⟩ := S.cell 4 0 rfl
              obtain ⟨x2, x3⟩ := S.cell 4 1 rfl
              obtain ⟨x4, x5⟩ := S.cell 4 2 rfl
              obtain ⟨x6, x7⟩ := S.cell 4 3 rfl
              obtain ⟨x8, x9⟩ := S.cell 4 4 rfl
              have HXE := Lib.hid (show factE.is (fun b => wq.heap.size ≤ b ∧ b < b10) w7 [.bool ng, .int .i64 tL.head, .slice kL tL.kids.length (tL.kids.length + spL), .int .i64 tR.head, .slice kR tR.kids.length (tR.kids.length + spR)] (⟨ng, tL, tR⟩ : Fc) from ⟨kL, spL, kR, spR, rfl, (S.treeP 3 rfl).mono (fun b h _ => by have := HB9.out; have := HB10.out; omega), (S.treeP 5 rfl).mono (fun b h _ => by have := HB6.out; have := HB9.out; have := HB10.out; omega)⟩)
              have hrr := HRR.out
              go_wp2_with (at_builtin; refine wpList_app rfl (.tmp 80) (.tmp 82) 40 rfl factE S 2 rfl (x := ⟨ng, tL, tR⟩) (q := fun b => wq.heap.size ≤ b ∧ b < b10) (p' := fun b => bx + 2 ≤ b) HXE.out Tryz.underlying40 gi gz0 gz1 gz2 rfl rfl rfl rfl ?c1 ?c2 ?c3 ?c4 ?c5 ?c6 ?c7 ?_)
              case c1 => unfold maxLen; omega
              case c2 => omega
              case c3 => have := HB6.out; have := HB9.out; have := HB10.out; omega
              case c4 => have := HBX.out; omega
              case c5 =>
                intro bb h1 h2 h3
                have h4 := (HOW.out bb h1); have h5 := HBX.out; have h6 := HB6.out; have h9 := HB9.out; have h10 := HB10.out
                simp only [offs, offAll, Fct.box, Fct.owns, Fct.treeP, and_true]
                omega
              case c6 => intro bb h1 h1b h2; have h4 := (HOW.out bb h2); omega
              case c7 => intro bb h1; have := HB6.out; rcases h1 with h1 | h1; exact h1.1; omega
              intro gg cap w8 S8 z8 hgl hgg
              have hgb : bx + 2 ≤ gg := (S8.ownlt factE 2 rfl gg rfl).1
              clear v0 v1
              obtain ⟨v0, v1⟩ := S8.one 1
              have S9 := (S8.set1 1 rfl (.slice (some ⟨gg, 0, none⟩) (fs.length + 1) cap) (by have := HBX.out; omega) (by
                have h5 := HBX.out; have h6 := HB6.out; have h9 := HB9.out; have h10 := HB10.out
                simp only [fset, offs, offAll, Fct.box, Fct.owns, Fct.treeP, and_true]
                refine ⟨by omega, fun e => ?_, by omega, by omega, by omega, by omega⟩
                rcases e with e | e
                · have e' : gg = bx + 1 := by simpa [Value.ownBlock] using e
                  omega
                · omega)).pick [0, 1, 2]
              have HS9 := Lib.hid (show St w (w8.setCell ⟨bx + 1, 0, none⟩ (.slice (some ⟨gg, 0, none⟩) (fs.length + 1) cap)) [.box bx #[.slice none 0 0] 42, .box (bx + 1) #[.slice (some ⟨gg, 0, none⟩) (fs.length + 1) cap] 42, .owns factE (bx + 2) (fun b => bx + 2 ≤ b) (.slice (some ⟨gg, 0, none⟩) (fs.length + 1) cap) (fs ++ [⟨ng, tL, tR⟩])] from S9)
              have hz9 : bx + 2 ≤ (w8.setCell ⟨bx + 1, 0, none⟩ (.slice (some ⟨gg, 0, none⟩) (fs.length + 1) cap)).heap.size := by simp; have := HB6.out; have := HB9.out; have := HB10.out; omega
              clear S S8 S9 HXE hgl hgg z8 x0 x1 x2 x3 x4 x5 x6 x7 x8 x9
              go_wp2_with fail
              go_roundg (r4.length + 1)
              case measure => omega
              case rel => exact ⟨fs ++ [⟨ng, tL, tR⟩], r4, _, rfl, rfl, HI2, by rw [List.length_append]; simp only [List.length_cons, List.length_nil]; omega, hz9, HS9.out⟩
  case rest =>
    obtain ⟨fs, o, HI, hl, zc, S⟩ := hcut
    obtain ⟨ro, rsp, rfl, hrow, hml⟩ := (S.owns factE 2).row (fun b h => h)
    obtain ⟨v0, v1⟩ := S.one 1
    obtain ⟨y0, y1⟩ := S.one 0
    have SF := Lib.hid ((S.set1 0 rfl (.slice ro fs.length (fs.length + rsp)) hx0 (offB S (fun b h => h))).add (.rowE factE (fun b => bx + 2 ≤ b) ro fs) (hrow.keep (fun b (h : bx + 2 ≤ b) _ => ⟨Below.heap_setCell _ _ _ _ (show b ≠ bx by omega), h⟩)))
    clear S hrow
    go_wp2_with fail
    refine ret_c1 (.slice ro fs.length (fs.length + rsp)) (.tuple #[.agg #[.slice ro fs.length (fs.length + rsp)], .bool true]) bx 42 (SF.out.block 0) (fun w' q0 => by simp [results, Tryz.results33, go_sem, q0]) rfl ?_
    exact ⟨fs, ro, rsp, true, rfl, (SF.out.rowE factE 3 rfl).mono (fun b h _ => by have := HBX.out; omega), fun _ => HI.out.fin, (fun h => by cases h), hl, SF.out.bel⟩
end Go.Proofs.YtidgnbdlfngeaaaGreatDoor
