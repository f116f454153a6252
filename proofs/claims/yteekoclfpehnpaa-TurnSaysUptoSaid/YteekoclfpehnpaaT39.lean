/-
  Walks: fit.match.
-/
import Derived.Test.YteekoclfpehnpaaProg
import Derived.Test.YteekoclfpehnpaaBase
import Derived.Test.YteekoclfpehnpaaSt3
import Derived.Test.YteekoclfpehnpaaT38
import Derived.Test.YteekoclfpehnpaaP7
import Derived.Test.YteekoclfpehnpaaT36
import Derived.IntWalk
import Derived.Deep.DeepCutAuto
namespace Go.Proofs.Yteekoclfpehnpaa
open Go.RowKit Go.Shelf
set_option linter.unusedVariables false
set_option maxHeartbeats 400000

def MatchPost (p t : T) (bs : Nat → T) (pp : Nat → Prop) (B g n : Nat) (w0 w : World) (l : List Fct) (e : Ending) (w' : World) : Prop :=
  ∃ bs', e = .returned (.bool (p.fit t bs).isSome) ∧ Hid (∀ r, p.fit t bs = some r → r = bs') ∧ w.heap.size ≤ w'.heap.size ∧ St w0 w' (.rset (fun b => pp b ∨ w.heap.size ≤ b) B g n bs' :: l)

set_option maxRecDepth 100000 in
set_option maxHeartbeats 8000000 in
theorem match62 (n g B : Nat) (p : T) : ∀ (t : T) (bs : Nat → T) (pp qp qt : Nat → Prop) (v u : Value) (w0 w : World) (l : List Fct), St w0 w (.rset pp B g n bs :: l) → offAll g l → w0.heap.size ≤ g → n ≤ 1000000 → ¬ pp g → TreeP qp w v p → TreeP qt w u t → ¬ qp g → ¬ qt g → p.most ≤ n → t.size ≤ 100000000 →
    Calls Try.prog 126 #[v, u, .slice (some ⟨g, 0, none⟩) n n] w (MatchPost p t bs pp B g n w0 w l) := by
  induction p using T.ind with
  | h p ih =>
  intro t bs pp qp qt v u w0 w l S hoff h0 hn hpg htp htt hqp hqt hm hsz
  obtain ⟨po, psp, rfl, hrp, hmp⟩ := htp.open
  obtain ⟨tq, tsp, rfl, hrt, hmt⟩ := htt.open
  have hmp : p.kids.length ≤ 9223372036854775807 := hmp
  have hmt : t.kids.length ≤ 9223372036854775807 := hmt
  have hgl := (S.rset 0).lt
  have S1 := (((S.cons (.treeP qp _ p) htp).cons (.treeP qt _ t) htt).boxH (b := w.heap.size) rfl #[.int .i64 p.head, .slice po p.kids.length (p.kids.length + psp)] 44).boxH (b := w.heap.size + 1) (by simp) #[.int .i64 t.head, .slice tq t.kids.length (t.kids.length + tsp)] 44
  have hm0 := head_most p
  have HOFF := Lib.hid hoff; have HPG := Lib.hid hpg; have HQP := Lib.hid hqp; have HQT := Lib.hid hqt; have IH := Lib.hid ih
  have HM := Lib.hid hm
  have HFE := Lib.hid (T.fit_eq p t bs)
  clear hoff hpg hqp hqt ih hrp hrt htp htt S
  by_cases hneg : p.head < 0
  · obtain ⟨m, hmm⟩ := Int.eq_ofNat_of_zero_le (show 0 ≤ -p.head - 1 by omega)
    have hm1 : (-p.head - 1).toNat = m := by omega
    have hmn : m < n := by have := HM.out; omega
    have hmni : (m : Int) < (n : Int) := by omega
    have HFN := Lib.hid (show p.fit t bs = if (bs m).head = 0 then some (setT bs m t) else if bs m = t then some bs else none by rw [HFE.out, if_pos hneg, hm1])
    have hm2 : -p.head - 1 = (m : Int) := hmm
    have hplo : -1000001 ≤ p.head := by omega
    clear hmm hm1
    obtain ⟨ko, ksp, c1, c2, f1, f2, c3⟩ := (S1.rset 4).get hmn
    by_cases hz : (bs m).head = 0
    · have hzb : ((bs m).head == 0) = true := by simpa using hz
      have HF := Lib.hid (show p.fit t bs = some (setT bs m t) by rw [HFN.out, if_pos hz])
      rw [hz] at c1
      clear hz
      obtain ⟨⟨x0, _⟩, x1, _⟩ := S1.two 0
      obtain ⟨⟨y0, _⟩, y1, _⟩ := S1.two 1
      have hlx := S1.lt 0
      go_enter Try.func126, Try.ntmps126
      go_wp2_with fail
      refine St.gen S1 (z := w.heap.size + 2) (by simp) ?_
      intro w1 z1 S2
      clear S1 x0 x1 y0 y1 hlx c1 c2 f1 f2 c3
      refine (copy50 t _ w1 (S2.treeP 2).at hsz).mono ?_
      rintro e w2 ⟨u, rfl, hu, hb2⟩
      obtain ⟨uk, usp, rfl⟩ := hu.at.form
      have S3 := S2.step hb2
      have z2 := hb2.size
      obtain ⟨ko, ksp, c1, c2, f1, f2, c3⟩ := (S3.rset 4).get hmn
      have hgl2 := (S3.rset 4).lt
      have S4 := (S3.sub (l' := .rset pp B g n bs :: l) (fun f hf => by simp only [List.mem_cons] at hf ⊢; rcases hf with h | h <;> simp [h])).rput (p' := fun b => pp b ∨ w.heap.size ≤ b) hmn (hu.mono (fun b h _ => .inr (by omega))) (fun b h => .inl h) (fun h => by rcases h with h | h; exact HPG.out h; omega) h0 HOFF.out
      have z4 : w.heap.size ≤ ((w2.setCell ⟨g, m * 2, none⟩ (.int .i64 t.head)).setCell ⟨g, m * 2 + 1, none⟩ (.slice uk t.kids.length (t.kids.length + usp))).heap.size := by simp; omega
      clear S2 S3 hu hb2 c3
      go_wp2_with fail
      go_ret
      exact ⟨_, by rw [HF.out]; rfl, (fun r hr => by rw [HF.out] at hr; exact (Option.some.inj hr).symm), z4, S4⟩
    · have hzb : ((bs m).head == 0) = false := by simpa using hz
      have HFN := Lib.hid (show p.fit t bs = if bs m = t then some bs else none by rw [HFN.out, if_neg hz])
      clear hz
      obtain ⟨⟨x0, _⟩, x1, _⟩ := S1.two 0
      obtain ⟨⟨y0, _⟩, y1, _⟩ := S1.two 1
      have hlx := S1.lt 0
      go_enter Try.func126, Try.ntmps126
      go_upto_region 6 with fail
      refine S1.genC (z := w.heap.size + 2) (by simp) ?_
      intro w1 z1 S2
      clear S1 x0 x1 y0 y1 hlx c1 c2 f1 f2 c3
      obtain ⟨ko, ksp, c1, c2, f1, f2, c3⟩ := (S2.rset 4).get hmn
      obtain ⟨⟨x0, _⟩, x1, _⟩ := S2.two 0
      have hcA : ∀ d os, Calls Try.prog 133 #[.agg #[.int .i64 (bs m).head, .slice ko (bs m).kids.length ((bs m).kids.length + ksp)], .agg #[.int .i64 t.head, .slice tq t.kids.length (t.kids.length + tsp)]] (Go.Sort.grow (redrawn w1 d) os) fun e w'' => e = .returned (.bool (decide (bs m = t))) ∧ ∃ p : Regrown, w'' = Go.Sort.grow (redrawn w1 p.d) p.os := fun d os =>
        Calls.regrown_of (same68 (bs m) t _ _ _ (c3.at.kept (below_regrown w1 d os)) ((S2.treeP 2).at.kept (below_regrown w1 d os)))
      have CA := Lib.hid hcA
      have r0 := cell_regrown x0; have r1 := cell_regrown x1; have r2 := cell_regrown c1; have r3 := cell_regrown c2
      clear hcA x0 x1 c1 c2 f1 f2 c3
      refine wp_region_quiet_below (by kernel_rfl) (by kernel_rfl) ?_
      repeat (go_big_quiet_step (exact CA.out _ _))
      refine wpQuiet_nil ?_
      intro _ hw'
      obtain ⟨⟨dq, osq⟩, hw''⟩ := hw'
      subst hw''
      refine (S2.regrown dq osq).genX (z := w.heap.size + 2) (Nat.le_trans z1 (below_regrown w1 dq osq).size) ?_
      intro w2 z2 S3
      clear r0 r1 r2 r3 CA S2
      have S4 := (S3.sub (l' := .rset pp B g n bs :: l) (fun f hf => by simp only [List.mem_cons] at hf ⊢; rcases hf with h | h <;> simp [h])).rmono (p' := fun b => pp b ∨ w.heap.size ≤ b) (fun b h _ => .inl h)
      go_wp2_with fail
      go_ret
      by_cases he : bs m = t
      · exact ⟨bs, by rw [HFN.out, if_pos he, decide_eq_true he]; rfl, (fun r hr => by rw [HFN.out, if_pos he] at hr; exact (Option.some.inj hr).symm), by omega, S4⟩
      · exact ⟨bs, by rw [HFN.out, if_neg he, decide_eq_false he]; rfl, (fun r hr => by rw [HFN.out, if_neg he] at hr; cases hr), by omega, S4⟩
  · have HF := Lib.hid (show p.fit t bs = if p.head = t.head ∧ p.kids.length = t.kids.length then fitL p.kids t.kids bs else none by rw [HFE.out, if_neg hneg])
    have hng : ¬ p.head < 0 := hneg
    obtain ⟨⟨x0, _⟩, x1, _⟩ := S1.two 0
    obtain ⟨⟨y0, _⟩, y1, _⟩ := S1.two 1
    have hlx := S1.lt 0
    have SE := Lib.hid ((S1.sub (l' := .rset pp B g n bs :: l) (fun f hf => by simp only [List.mem_cons] at hf ⊢; rcases hf with h | h <;> simp [h])).rmono (p' := fun b => pp b ∨ w.heap.size ≤ b) (fun b h _ => .inl h))
    have hzE : w.heap.size ≤ ((w.alloc (.cells #[.int .i64 p.head, .slice po p.kids.length (p.kids.length + psp)] 44)).alloc (.cells #[.int .i64 t.head, .slice tq t.kids.length (t.kids.length + tsp)] 44)).heap.size := by simp; omega
    by_cases hh : p.head = t.head
    · have hhb : (p.head != t.head) = false := by simp [hh]
      by_cases hl : p.kids.length = t.kids.length
      · have hlb : ((p.kids.length : Int) != (t.kids.length : Int)) = false := by simp [hl]
        have HF := Lib.hid (show p.fit t bs = fitL p.kids t.kids bs by rw [HF.out, if_pos ⟨hh, hl⟩])
        have HL := Lib.hid hl
        clear hh hl
        go_enter Try.func126, Try.ntmps126
        go_wp2_with fail
        refine S1.genC (z := w.heap.size + 2) (by simp) ?_
        intro wB zB S2
        have SB := Lib.hid S2
        clear S1 S2 x0 x1 y0 y1 hlx SE hzE
        go_loopw [8, 9, 51] (fun _ _ i wr => ∃ (q : Nat) (bs' : Nat → T), q ≤ p.kids.length ∧ i = .int .i64 q ∧ Hid (fitL (p.kids.drop q) (t.kids.drop q) bs' = fitL p.kids t.kids bs) ∧ w.heap.size + 2 ≤ wr.heap.size ∧
          St w0 wr (.box (w.heap.size + 1) #[.int .i64 t.head, .slice tq t.kids.length (t.kids.length + tsp)] 44 :: .box w.heap.size #[.int .i64 p.head, .slice po p.kids.length (p.kids.length + psp)] 44 :: .treeP qt (.agg #[.int .i64 t.head, .slice tq t.kids.length (t.kids.length + tsp)]) t :: .treeP qp (.agg #[.int .i64 p.head, .slice po p.kids.length (p.kids.length + psp)]) p :: .rset (fun b => pp b ∨ w.heap.size ≤ b) B g n bs' :: l)) (fun _ _ i _ => p.kids.length - (intOf i).toNat)
        case atStart => exact ⟨0, bs, by omega, rfl, rfl, zB, ((SB.out.pull 4).rmono (p' := fun b => pp b ∨ w.heap.size ≤ b) (fun b h _ => .inl h)).back 4⟩
        case round =>
          obtain ⟨q, bs', hq, rfl, HI, zr, S⟩ := hrel
          by_cases hlt : q < p.kids.length
          · have hlti : (q : Int) < (p.kids.length : Int) := by omega
            have hlt2 : q < t.kids.length := by have := HL.out; omega
            have hlti2 : (q : Int) < (t.kids.length : Int) := by omega
            obtain ⟨b, off, ko, ksp, rfl, hb1, c1, c2, c3⟩ := (S.treeP 3).row.1 q hlt
            have SX := (S.cons (.treeP qp _ (gK p.kids q)) c3).boxH rfl #[.int .i64 (gK p.kids q).head, .slice ko (gK p.kids q).kids.length ((gK p.kids q).kids.length + ksp)] 44
            clear c3
            go_upto_region 12 with fail
            refine SX.genC (z := wr.heap.size + 1) (by simp) ?_
            intro w1 z1 S2
            clear S SX c1 c2 hb1
            obtain ⟨b2, off2, ko2, ksp2, rfl, hb2, d1, d2, d3⟩ := (S2.treeP 4).row.1 q hlt2
            obtain ⟨⟨x0, _⟩, x1, _⟩ := S2.two 0
            obtain ⟨⟨y0, _⟩, y1, _⟩ := S2.two 2
            have hlx := S2.lt 0
            have hg1 := (S2.rset 6).lt.2
            have HD := Lib.hid (d3.kept (w' := w1.drew) (Below.refl _ _).drew)
            have HKM := Lib.hid (show (gK p.kids q).most ≤ (n : Int) by have := kid_most hlt; have := HM.out; omega)
            have HKS := Lib.hid (show (gK t.kids q).size ≤ 100000000 by have := kid_size hlt2; have := t.size_eq; omega)
            have SD := Lib.hid (S2.drew.pull 6)
            have hpg2 : ¬ (pp g ∨ w.heap.size ≤ g) := fun h => by rcases h with h | h; exact HPG.out h; omega
            have HPG2 := Lib.hid hpg2
            clear d3 hpg2
            go_still_tail 7, (by kernel_rfl)
            change wpList _ _ _ _ _ w1.drew
            go_wp2_with fail
            refine (IH.out q hlt (gK t.kids q) bs' _ qp qt _ _ w0 w1.drew _ SD.out ⟨show ¬ g = wr.heap.size by omega, HQP.out, show ¬ g = w.heap.size + 1 by omega, show ¬ g = w.heap.size by omega, HQT.out, HQP.out, HOFF.out⟩ h0 hn HPG2.out (SD.out.treeP 2) HD.out HQP.out HQT.out HKM.out HKS.out).mono ?_
            rintro e w3 ⟨bs2, rfl, HB2, z3, S3⟩
            have HST := Lib.hid (fitL_step (bs := bs') hlt hlt2)
            have z3' : w1.heap.size ≤ w3.heap.size := z3
            have S4 := Lib.hid (S3.rmono (p' := fun b => pp b ∨ w.heap.size ≤ b) (fun b h _ => by
              rcases h with h | h
              · exact h
              · have h' : w1.heap.size ≤ b := h
                right; omega))
            clear x0 x1 y0 y1 hlx d1 d2 hb2 S2 SD z3 S3
            cases hfk : (gK p.kids q).fit (gK t.kids q) bs' with
            | none =>
              have HFN := Lib.hid (show p.fit t bs = none by rw [HF.out, ← HI.out, HST.out, hfk])
              clear hfk
              go_wp2_with fail
              go_ret
              exact ⟨bs2, by rw [HFN.out]; rfl, (fun r hr => by rw [HFN.out] at hr; cases hr), by omega, S4.out.sub (fun f hf => by simp only [List.mem_cons] at hf; rcases hf with h | h <;> simp [h, fdel])⟩
            | some b2' =>
              obtain rfl := HB2.out b2' hfk
              have HN := Lib.hid (show fitL (p.kids.drop (q + 1)) (t.kids.drop (q + 1)) b2' = fitL p.kids t.kids bs by rw [← HI.out, HST.out, hfk])
              clear hfk
              have S5 := Lib.hid (S4.out.back 6)
              go_wp2_with fail
              go_roundw
              case rel => exact ⟨q + 1, b2', by omega, by go_num, HN.out, by omega, S5.out.tail.tail⟩
              case measure => simp [intOf] <;> omega
          · obtain rfl : q = p.kids.length := by omega
            have HFS := Lib.hid (show p.fit t bs = some bs' by rw [HF.out, ← HI.out, List.drop_length, fitL])
            go_wp2_with fail
            go_ret
            exact ⟨bs', by rw [HFS.out]; rfl, (fun r hr => by rw [HFS.out] at hr; exact (Option.some.inj hr).symm), by omega, S.tail.tail.tail.tail⟩
      · have hlb : ((p.kids.length : Int) != (t.kids.length : Int)) = true := by simp; omega
        have HF := Lib.hid (show p.fit t bs = none by rw [HF.out, if_neg (fun h => hl h.2)])
        clear hh hl S1
        go_enter Try.func126, Try.ntmps126
        go_wp2_with fail
        go_ret
        exact ⟨bs, by rw [HF.out]; rfl, (fun r hr => by rw [HF.out] at hr; cases hr), hzE, SE.out⟩
    · have hhb : (p.head != t.head) = true := by simp [hh]
      have HF := Lib.hid (show p.fit t bs = none by rw [HF.out, if_neg (fun h => hh h.1)])
      clear hh S1
      go_enter Try.func126, Try.ntmps126
      go_wp2_with fail
      go_ret
      exact ⟨bs, by rw [HF.out]; rfl, (fun r hr => by rw [HF.out] at hr; cases hr), hzE, SE.out⟩
end Go.Proofs.Yteekoclfpehnpaa
