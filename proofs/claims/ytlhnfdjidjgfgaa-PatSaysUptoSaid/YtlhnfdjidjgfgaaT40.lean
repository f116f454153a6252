/-
  Walks: the document's Fit.
-/
import Derived.Test.YtlhnfdjidjgfgaaProg
import Derived.Test.YtlhnfdjidjgfgaaBase
import Derived.Test.YtlhnfdjidjgfgaaSt4
import Derived.Test.YtlhnfdjidjgfgaaXa
import Derived.Test.YtlhnfdjidjgfgaaXe
import Derived.Test.YtlhnfdjidjgfgaaT33h
import Derived.IntWalk
import Derived.Deep.DeepCutAuto
import Derived.Deep.RegionHeld3
namespace Go.Proofs.Ytlhnfdjidjgfgaa
open Go.RowKit Go.Shelf
set_option linter.unusedVariables false
set_option maxHeartbeats 400000

theorem listT_set {n j : Nat} {bs : Nat → T} {t : T} (hj : j < n) : (listT n bs).set j t = listT n (setT bs j t) := by
  apply List.ext_getElem (by simp [listT])
  intro i h1 h2
  simp only [listT, List.getElem_set, List.getElem_map, List.getElem_range, setT]
  by_cases e : i = j
  · subst e; simp
  · rw [if_neg (fun h => e h.symm), if_neg e]
def FitPost (p t : T) (bs : Nat → T) (n : Nat) (p0 : Nat → Prop) (w : World) (e : Ending) (w' : World) : Prop :=
  ∃ ro rc, e = .returned (.tuple #[.slice ro n rc, .bool (p.fit t bs).isSome]) ∧ (∀ r, p.fit t bs = some r → RowP (fun b => p0 b ∨ w.heap.size ≤ b) w' ro (listT n r)) ∧ Below w.heap.size w w'

set_option maxRecDepth 100000 in
set_option maxHeartbeats 8000000 in
theorem fit35 (n : Nat) (p : T) : ∀ (t : T) (bs : Nat → T) (p0 : Nat → Prop) (v u : Value) (bo : Option Addr) (bc : Nat) (w : World), (∀ b, p0 b → b < w.heap.size) → TreeP p0 w v p → TreeP p0 w u t → RowP p0 w bo (listT n bs) → p.most ≤ n → n ≤ 1000000 →
    Calls Try.prog 46 #[v, u, .slice bo n bc] w (FitPost p t bs n p0 w) := by
  induction p using T.ind with
  | h p ih =>
  intro t bs p0 v u bo bc w hp0 htp htt hrb hm hn
  obtain ⟨po, psp, rfl, hrp, hmp⟩ := htp.open
  obtain ⟨tq, tsp, rfl, hrt, hmt⟩ := htt.open
  have hmp : p.kids.length ≤ 9223372036854775807 := hmp
  have hmt : t.kids.length ≤ 9223372036854775807 := hmt
  have S1 := ((St.start w).box rfl #[.int .i64 p.head, .slice po p.kids.length (p.kids.length + psp)] 38).box (b := w.heap.size + 1) (by simp) #[.int .i64 t.head, .slice tq t.kids.length (t.kids.length + tsp)] 38
  have hm0 := head_most p
  have IH := Lib.hid ih; have HP0 := Lib.hid hp0; have HRB := Lib.hid hrb
  have HRP := Lib.hid hrp; have HRT := Lib.hid hrt; have HM := Lib.hid hm; have HTT := Lib.hid htt
  have HFE := Lib.hid (T.fit_eq p t bs)
  clear ih hrp hrt htp htt hrb hp0
  by_cases hneg : p.head < 0
  · obtain ⟨m, hmm⟩ := Int.eq_ofNat_of_zero_le (show 0 ≤ -p.head - 1 by omega)
    have hm1 : (-p.head - 1).toNat = m := by omega
    have hmn : m < n := by have := HM.out; omega
    have hmni : (m : Int) < (n : Int) := by omega
    have HFN := Lib.hid (show p.fit t bs = if (bs m).head = 0 then some (setT bs m t) else if bs m = t then some bs else none by rw [HFE.out, if_pos hneg, hm1])
    have hm2 : -p.head - 1 = (m : Int) := hmm
    have hplo : -1000001 ≤ p.head := by omega
    clear hmm hm1
    obtain ⟨b, off, ko, ksp, rfl, hb1, c1, c2, c3⟩ := HRB.out m (by rw [listT_length]; exact hmn)
    rw [listT_gK hmn] at c1 c2 c3
    by_cases hz : (bs m).head = 0
    · have hzb : ((bs m).head != 0) = false := by simpa using hz
      have HF := Lib.hid (show p.fit t bs = some (setT bs m t) by rw [HFN.out, if_pos hz])
      rw [hz] at c1
      clear hz
      obtain ⟨⟨x0, _⟩, x1, _⟩ := S1.two 0
      have hlx := S1.lt 0
      have d1 := Below.cellOf S1.bel c1
      go_enter Try.func46, Try.ntmps46
      go_upto_region 6 with fail
      refine S1.genC (z := w.heap.size + 2) (by simp) ?_
      intro w1 z1 S2
      clear S1 x0 x1 hlx c1 d1 c2 c3
      obtain ⟨cs, hcl, hck, hcc, hc1⟩ := (HRB.out.kept S2.bel).cells
      rw [listT_length] at hcl
      have HCK := Lib.hid hck; have HCC := Lib.hid hcc; have HC1 := Lib.hid hc1; have HCL := Lib.hid hcl
      clear hck hcc hc1 hcl
      obtain ⟨i24, gi, gz0, gz1, gz2⟩ := info_parts info24
      go_wp2_with (at_builtin; refine wpList_append_own_any rfl (.tmp 33) (.tmp 34) 33 rfl w1.heap.size 38 i24 (.agg #[.int .i64 0, .slice none 0 0]) 2 32 Try.underlying33 gi gz0 gz1 gz2 rfl (by decide) (.slice none 0 0) 0 [] rfl (World.ownsRow_nil _ _ _ _) (some ⟨b, off, none⟩) n bc cs rfl (fun h => by cases h) HCL.out HCC.out HC1.out ?c3 ?c4 (Nat.le_refl _) ?_)
      case c3 => unfold maxLen; omega
      case c4 => omega
      intro v' w2 hown hgrow
      have hbg : Below w1.heap.size w1 w2 := (Below.refl _ _).grown hgrow (Nat.le_refl _) (fun q hq => by cases hq)
      have S3 := S2.step hbg
      try simp only [Nat.zero_add, List.nil_append] at hown
      have hro : RowOwn p0 w1.heap.size w2 v' (listT n bs) := ⟨cs, by rw [listT_length]; exact hown, fun i hi => by
        obtain ⟨k, sp, e1, e2, e3⟩ := HCK.out i hi
        exact ⟨k, sp, e1, e2, (e3.mono (q := fun b => p0 b ∧ v'.ownBlock ≠ some b) (fun b h _ => ⟨h, fun e => by have h1 := (hown.lt b e).1; have := HP0.out b h; omega⟩)).kept hbg⟩⟩
      obtain ⟨gg, cap, rfl⟩ : ∃ gg cap, v' = .slice (some ⟨gg, 0, none⟩) n cap := by
        rcases hown.2 with ⟨_, h⟩ | ⟨gg, cap, cur, h, _⟩
        · omega
        · exact ⟨gg, cap, h⟩
      have hgg := hown.lt gg rfl
      obtain ⟨k3, sp3, q1, q2, _⟩ := HCK.out m (by rw [listT_length]; exact hmn)
      have r1 := hown.cellAt (m * 2) (by omega)
      have r2 := hown.cellAt (m * 2 + 1) (by omega)
      rw [q1] at r1; rw [q2] at r2
      have r3 := hown.frozenAt (m * 2)
      have r4 := hown.frozenAt (m * 2 + 1)
      obtain ⟨⟨x0, _⟩, x1, _⟩ := S3.two 1
      have hset := RowOwn.set (j := m) (t := t) (k := tq) (sp := tsp) (by rw [listT_length]; exact hro) (by rw [listT_length]; exact hmn) ((HTT.out.mono (q := fun b => p0 b ∧ b ≠ gg) (fun b h h2 => ⟨h, by omega⟩)).kept S3.bel)
      rw [listT_length, listT_set hmn] at hset
      have hbel := (S3.bel.setCell (p := ⟨gg, m * 2, none⟩) (by show w.heap.size ≤ gg; omega) (.int .i64 t.head)).setCell (p := ⟨gg, m * 2 + 1, none⟩) (by show w.heap.size ≤ gg; omega) (.slice tq t.kids.length (t.kids.length + tsp))
      have HSET := Lib.hid hset; have HBEL := Lib.hid hbel
      clear hown hgrow hbg S2 S3 hro q1 q2 hset hbel
      go_wp2_with fail
      go_ret2
      obtain ⟨ao, sp, ee, hrow, _⟩ := (HSET.out.mono (q := fun b => p0 b ∨ w.heap.size ≤ b) (fun b h _ => .inl h)).row (fun b h => Or.inr (by omega))
      refine ⟨some ⟨gg, 0, none⟩, cap, by rw [HF.out]; rfl, fun r hr => ?_, HBEL.out⟩
      rw [HF.out] at hr
      obtain rfl := Option.some.inj hr
      obtain rfl : some ⟨gg, 0, none⟩ = ao := by simp at ee; exact ee.1
      exact hrow
    · have hzb : ((bs m).head != 0) = true := by simpa using hz
      have HFN := Lib.hid (show p.fit t bs = if bs m = t then some bs else none by rw [HFN.out, if_neg hz])
      clear hz
      obtain ⟨⟨x0, _⟩, x1, _⟩ := S1.two 0
      have hlx := S1.lt 0
      have d1 := Below.cellOf S1.bel c1
      go_enter Try.func46, Try.ntmps46
      go_upto_region 4 with fail
      refine S1.genC (z := w.heap.size + 2) (by simp) ?_
      intro w1 z1 S2
      clear S1 x0 x1 hlx d1
      obtain ⟨⟨x0, _⟩, x1, _⟩ := S2.two 1
      have d1 := Below.cellOf S2.bel c1; have d2 := Below.cellOf S2.bel c2
      have hcA : ∀ d os, Calls Try.prog 38 #[.agg #[.int .i64 (bs m).head, .slice ko (bs m).kids.length ((bs m).kids.length + ksp)], .agg #[.int .i64 t.head, .slice tq t.kids.length (t.kids.length + tsp)]] (Go.Sort.grow (redrawn w1 d) os) fun e w'' => e = .returned (.bool (decide (bs m = t))) ∧ ∃ p : Regrown, w'' = Go.Sort.grow (redrawn w1 p.d) p.os := fun d os =>
        Calls.regrown_of (same22 (bs m) t _ _ _ ((c3.at.kept S2.bel).kept (below_regrown w1 d os)) ((HTT.out.at.kept S2.bel).kept (below_regrown w1 d os)))
      have CA := Lib.hid hcA
      have r0 := cell_regrown x0; have r1 := cell_regrown x1; have r2 := cell_regrown d1; have r3 := cell_regrown d2
      clear hcA x0 x1 c1 c2 d1 d2 c3
      refine wp_region_quiet_below (by kernel_rfl) (by kernel_rfl) ?_
      repeat (go_big_quiet_step (exact CA.out _ _))
      refine wpQuiet_nil ?_
      intro _ hw'
      obtain ⟨⟨dq, osq⟩, hw''⟩ := hw'
      subst hw''
      refine (S2.regrown dq osq).genX (z := w.heap.size + 2) (Nat.le_trans z1 (below_regrown w1 dq osq).size) ?_
      intro w2 z2 S3
      clear r0 r1 r2 r3 CA S2
      go_wp2_with fail
      go_ret2
      have hrow := (HRB.out.kept S3.bel).mono (q := fun b => p0 b ∨ w.heap.size ≤ b) (fun b h _ => .inl h)
      by_cases he : bs m = t
      · exact ⟨_, _, by rw [HFN.out, if_pos he, decide_eq_true he]; rfl, (fun r hr => by rw [HFN.out, if_pos he] at hr; obtain rfl := Option.some.inj hr; exact hrow), S3.bel⟩
      · exact ⟨_, _, by rw [HFN.out, if_neg he, decide_eq_false he]; rfl, (fun r hr => by rw [HFN.out, if_neg he] at hr; cases hr), S3.bel⟩
  · have HF := Lib.hid (show p.fit t bs = if p.head = t.head ∧ p.kids.length = t.kids.length then fitL p.kids t.kids bs else none by rw [HFE.out, if_neg hneg])
    have hng : ¬ p.head < 0 := hneg
    obtain ⟨⟨x0, _⟩, x1, _⟩ := S1.two 0
    obtain ⟨⟨y0, _⟩, y1, _⟩ := S1.two 1
    have hlx := S1.lt 1
    have SE := Lib.hid S1.bel
    by_cases hh : p.head = t.head
    · have hhb : (p.head != t.head) = false := by simp [hh]
      by_cases hl : p.kids.length = t.kids.length
      · have hlb : ((p.kids.length : Int) != (t.kids.length : Int)) = false := by simp [hl]
        have HF := Lib.hid (show p.fit t bs = fitL p.kids t.kids bs by rw [HF.out, if_pos ⟨hh, hl⟩])
        have HL := Lib.hid hl
        clear hh hl
        go_enter Try.func46, Try.ntmps46
        go_wp2_with fail
        refine S1.genC (z := w.heap.size + 2) (by simp) ?_
        intro wB zB S2
        have SB := Lib.hid S2
        clear S1 S2 x0 x1 y0 y1 hlx SE
        go_loopw [2, 10, 11, 12] (fun bv i _ _ wr => ∃ (q : Nat) (bs' : Nat → T) (bo' : Option Addr) (bc' : Nat), q ≤ p.kids.length ∧ i = .int .i64 q ∧ bv = .slice bo' n bc' ∧ Hid (fitL (p.kids.drop q) (t.kids.drop q) bs' = fitL p.kids t.kids bs) ∧ RowP (fun b => p0 b ∨ w.heap.size ≤ b) wr bo' (listT n bs') ∧
          St w wr [.box w.heap.size #[.int .i64 p.head, .slice po p.kids.length (p.kids.length + psp)] 38, .box (w.heap.size + 1) #[.int .i64 t.head, .slice tq t.kids.length (t.kids.length + tsp)] 38]) (fun _ i _ _ _ => p.kids.length - (intOf i).toNat)
        case atStart => exact ⟨0, bs, bo, bc, by omega, rfl, rfl, rfl, (HRB.out.kept SB.out.bel).mono (fun b h _ => .inl h), SB.out⟩
        case round =>
          obtain ⟨q, bs', bo', bc', hq, rfl, rfl, HI, hrow, S⟩ := hrel
          have HROW := Lib.hid hrow
          obtain ⟨⟨x0, _⟩, x1, _⟩ := S.two 0
          obtain ⟨⟨y0, _⟩, y1, _⟩ := S.two 1
          clear hrow
          by_cases hlt : q < p.kids.length
          · have hlti : (q : Int) < (p.kids.length : Int) := by omega
            have hlt2 : q < t.kids.length := by have := HL.out; omega
            have hlti2 : (q : Int) < (t.kids.length : Int) := by omega
            obtain ⟨b, off, ko, ksp, rfl, hb1, c1, c2, c3⟩ := (HRP.out.kept S.bel) q hlt
            obtain ⟨b2, off2, ko2, ksp2, rfl, hb2, d1, d2, d3⟩ := (HRT.out.kept S.bel) q hlt2
            have hsz := S.size
            have HC := Lib.hid ((c3.mono (q := fun b => (p0 b ∨ w.heap.size ≤ b) ∧ b < wr.heap.size) (fun b h h2 => ⟨.inl h, h2⟩)).kept (w' := wr.drew) (Below.refl _ _).drew)
            have HD := Lib.hid ((d3.mono (q := fun b => (p0 b ∨ w.heap.size ≤ b) ∧ b < wr.heap.size) (fun b h h2 => ⟨.inl h, h2⟩)).kept (w' := wr.drew) (Below.refl _ _).drew)
            have HRW := Lib.hid ((HROW.out.mono (q := fun b => (p0 b ∨ w.heap.size ≤ b) ∧ b < wr.heap.size) (fun b h h2 => ⟨h, h2⟩)).kept (w' := wr.drew) (Below.refl _ _).drew)
            have HPZ := Lib.hid (show ∀ b, ((p0 b ∨ w.heap.size ≤ b) ∧ b < wr.heap.size) → b < wr.drew.heap.size from fun b h => h.2)
            have HKM := Lib.hid (show (gK p.kids q).most ≤ (n : Int) by have := kid_most hlt; have := HM.out; omega)
            clear c3 d3
            go_wp2_with fail
            have hq0 : (0 : Int) ≤ (q : Int) := by omega
            go_region_held3 (fun w' => w'.cell? ⟨w.heap.size, 1, none⟩ = some (.slice (some ⟨b, off, none⟩) p.kids.length (p.kids.length + psp)) ∧ w'.cell? ⟨w.heap.size + 1, 1, none⟩ = some (.slice (some ⟨b2, off2, none⟩) t.kids.length (t.kids.length + tsp)) ∧
                w'.cell? ⟨b, off + q * 2, none⟩ = some (.int .i64 (gK p.kids q).head) ∧ w'.cell? ⟨b, off + q * 2 + 1, none⟩ = some (.slice ko (gK p.kids q).kids.length ((gK p.kids q).kids.length + ksp)) ∧
                w'.cell? ⟨b2, off2 + q * 2, none⟩ = some (.int .i64 (gK t.kids q).head) ∧ w'.cell? ⟨b2, off2 + q * 2 + 1, none⟩ = some (.slice ko2 (gK t.kids q).kids.length ((gK t.kids q).kids.length + ksp2)))
              (first | go_keep | exact ⟨Below.cellOf hb3 x1, Below.cellOf hb3 y1, Below.cellOf hb3 c1, Below.cellOf hb3 c2, Below.cellOf hb3 d1, Below.cellOf hb3 d2⟩)
              (first | (go_at_call 46; refine (IH.out q hlt (gK t.kids q) bs' _ _ _ _ _ wr.drew HPZ.out HC.out HD.out HRW.out HKM.out hn).mono ?_; rintro e w3 ⟨ro, rc, rfl, hr3, hb3⟩; have HR3 := Lib.hid hr3; clear hr3))
            have HST := Lib.hid (fitL_step (bs := bs') hlt hlt2)
            have hb3' : Below wr.heap.size wr w3 := Below.step (Below.refl wr.heap.size wr).drew hb3
            have S4 := S.step hb3'
            clear x0 x1 y0 y1 c1 c2 d1 d2 hb1 hb2 hb3 S
            cases hfk : (gK p.kids q).fit (gK t.kids q) bs' with
            | none =>
              have HFN := Lib.hid (show p.fit t bs = none by rw [HF.out, ← HI.out, HST.out, hfk])
              clear hfk
              go_wp2_with fail
              go_ret2
              exact ⟨_, _, by rw [HFN.out]; rfl, (fun r hr => by rw [HFN.out] at hr; cases hr), S4.bel⟩
            | some b2' =>
              have HN := Lib.hid (show fitL (p.kids.drop (q + 1)) (t.kids.drop (q + 1)) b2' = fitL p.kids t.kids bs by rw [← HI.out, HST.out, hfk])
              have HR4 := Lib.hid ((HR3.out b2' hfk).mono (q := fun b => p0 b ∨ w.heap.size ≤ b) (fun b h _ => by
                rcases h with h | h
                · exact h.1
                · have h' : wr.heap.size ≤ b := h
                  right; omega))
              clear hfk
              go_wp2_with fail
              go_roundw
              case rel => exact ⟨q + 1, b2', _, _, by omega, by go_num, rfl, HN.out, HR4.out, S4⟩
              case measure => simp [intOf] <;> omega
          · obtain rfl : q = p.kids.length := by omega
            have HFS := Lib.hid (show p.fit t bs = some bs' by rw [HF.out, ← HI.out, List.drop_length, fitL])
            go_wp2_with fail
            go_ret2
            exact ⟨_, _, by rw [HFS.out]; rfl, (fun r hr => by rw [HFS.out] at hr; obtain rfl := Option.some.inj hr; exact HROW.out), S.bel⟩
      · have hlb : ((p.kids.length : Int) != (t.kids.length : Int)) = true := by simp; omega
        have HF := Lib.hid (show p.fit t bs = none by rw [HF.out, if_neg (fun h => hl h.2)])
        clear hh hl S1
        go_enter Try.func46, Try.ntmps46
        go_wp2_with fail
        go_ret2
        exact ⟨_, _, by rw [HF.out]; rfl, (fun r hr => by rw [HF.out] at hr; cases hr), SE.out⟩
    · have hhb : (p.head != t.head) = true := by simp [hh]
      have HF := Lib.hid (show p.fit t bs = none by rw [HF.out, if_neg (fun h => hh h.1)])
      clear hh S1
      go_enter Try.func46, Try.ntmps46
      go_wp2_with fail
      go_ret2
      exact ⟨_, _, by rw [HF.out]; rfl, (fun r hr => by rw [HF.out] at hr; cases hr), SE.out⟩
end Go.Proofs.Ytlhnfdjidjgfgaa
