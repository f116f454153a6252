/-
  Walks: (*unify.solver).root.
-/
import Derived.Test.YtlhnfdjidjgfgaaProg
import Derived.Test.YtlhnfdjidjgfgaaUm
import Derived.Test.YtlhnfdjidjgfgaaG2
import Derived.Test.YtlhnfdjidjgfgaaSt3
import Derived.Deep.RegionLaw
import Derived.RegionTactic
namespace Go.Proofs.Ytlhnfdjidjgfgaa
open Go.RowKit Go.Shelf Go.Maps
set_option linter.unusedVariables false
set_option maxHeartbeats 400000

/-- how far a variable in a cell is from its end -/
def headM (rank : Nat → Nat) (w : World) (b : Nat) : Nat := match w.cell? ⟨b, 0, none⟩ with
  | some (.int _ h) => if h < 0 then rank (-h - 1).toNat + 1 else 0
  | _ => 0
theorem headM_of {rank : Nat → Nat} {w : World} {b : Nat} {h : Int} (hc : w.cell? ⟨b, 0, none⟩ = some (.int .i64 h)) : headM rank w b = if h < 0 then rank (-h - 1).toNat + 1 else 0 := by unfold headM; rw [hc]

def RootP (N : Nat) (p : Nat → Prop) (M : PM) (t : T) (w : World) (e : Ending) (w' : World) : Prop := ∃ u t', e = .returned u ∧ TreeP p w' u t' ∧ IsRoot N M t t' ∧ Below w.heap.size w w'
set_option maxRecDepth 100000 in
set_option maxHeartbeats 4000000 in
theorem root154 (N : Nat) (p : Nat → Prop) (b bs : Nat) (M : PM) (t : T) (v : Value) (w : World) (hM : MapT N p b M w) (hbs : w.heap[bs]? = some (.cells #[.map (some b)] 165 (0, 0))) (hg : GoodM N M) (ha : Acyc M) (ht : TreeP p w v t) (hv : VA N t) (hN : N ≤ 1000) (hpw : ∀ c, p c → c < w.heap.size) :
    Calls Try.prog 154 #[.pointer (some ⟨bs, 0, none⟩), v] w (RootP N p M t w) := by
  obtain ⟨rank, hr⟩ := ha
  obtain ⟨k, sp, rfl⟩ := ht.at.form
  have HM := Lib.hid hM; have HG := Lib.hid hg; have HR := Lib.hid hr; have HT := Lib.hid ht; have HV := Lib.hid hv; have HPW := Lib.hid hpw
  have HBS := Lib.hid (show ∀ W, Below w.heap.size w W → W.cell? ⟨bs, 0, none⟩ = some (.map (some b)) from fun W h => (box1 (Below.heapAt h hbs)).1)
  have HBM := Lib.hid (show ∀ W, Below w.heap.size w W → W.heap[b]? = w.heap[b]? from fun W h => h.block b hM.lt)
  obtain ⟨bx, hbx⟩ : ∃ b, b = w.heap.size := ⟨_, rfl⟩
  have S1 := ((St.start w).box hbx.symm #[.int .i64 t.head, .slice k t.kids.length (t.kids.length + sp)] 38).box (b := bx + 1) (by simp [hbx]) #[.int .i64 0, .slice none 0 0] 38
  have hsz1 : ((w.alloc (.cells #[.int .i64 t.head, .slice k t.kids.length (t.kids.length + sp)] 38)).alloc (.cells #[.int .i64 0, .slice none 0 0] 38)).heap.size = bx + 2 := by simp [hbx]
  clear hM hbs hg hr ht hv hpw
  go_enter Try.func154, Try.ntmps154
  go_wp2_with fail
  rw [← hbx]
  refine S1.genC (z := bx + 2) (by omega) ?_
  intro w1 z1 S
  have HBX := Lib.hid (show bx = w.heap.size from hbx)
  clear S1 hbx hsz1
  go_loopw [6] (fun _ wr => ∃ (cur : T) (kk : Option Addr) (cs : Nat), TreeP p w (.agg #[.int .i64 cur.head, .slice kk cur.kids.length (cur.kids.length + cs)]) cur ∧ VA N cur ∧ (∀ θ, Sol M θ → t.inst θ = cur.inst θ) ∧ bx + 2 ≤ wr.heap.size ∧ St w wr [.box bx #[.int .i64 cur.head, .slice kk cur.kids.length (cur.kids.length + cs)] 38, .box (bx + 1) #[.int .i64 0, .slice none 0 0] 38]) (fun _ wr => headM rank wr bx)
  case atStart => exact ⟨t, k, sp, HT.out, HV.out, fun _ _ => rfl, z1, S⟩
  case round =>
    clear S
    obtain ⟨cur, kk, cs, hcur, hcv, hcs, z3, S⟩ := hrel
    have HC0 := Lib.hid hcur; have HCV := Lib.hid hcv; have HCS := Lib.hid hcs
    clear hcur hcv hcs
    obtain ⟨⟨x0, _⟩, x1, _⟩ := S.two 0
    have HM0 := Lib.hid (headM_of (rank := rank) x0)
    by_cases hneg : cur.head < 0
    · have hwf := wf_low hneg HCV.out hN
      rcases HM.out.look hneg hwf with ⟨x, c, hm, hxt, hl⟩ | ⟨hm, hl⟩
      · obtain ⟨kx, xs, hxe⟩ := hxt.at.form
        rw [hxe] at hxt hl
        have HX := Lib.hid hxt; have HL := Lib.hid hl; have HMX := Lib.hid hm
        clear hm hxt hl hxe hwf
        obtain ⟨bn, hbn'⟩ : ∃ b, wr.heap.size = b := ⟨_, rfl⟩
        have hbn : wr.drew.heap.size = bn := hbn'
        have SD := Lib.hid S.drew; have HSW := Lib.hid S
        clear S
        go_wp2_with fail
        refine wpG_region 99 (fun W => W.cell? ⟨bs, 0, none⟩ = some (.map (some b)) ∧ W.cell? ⟨bx, 0, none⟩ = some (.int .i64 cur.head) ∧ (Instr.lookup 163 (.map (some b)) (.int .i64 cur.head) true).run Try.prog W = .ok (.tuple #[.agg #[(.int .i64 x.head), (.slice kx x.kids.length (x.kids.length + xs))], .bool true]) W) (by kernel_rfl) ?_
        have HS := (⟨HBS.out _ SD.out.bel, (SD.out.two 0).1.1, HL.out _ (HBM.out _ SD.out.bel)⟩ : _ ∧ _ ∧ _)
        refine wpG.take0 (i := 0) (by kernel_rfl) (by kernel_rfl) (by kernel_rfl) (by kernel_rfl) HS ?_
        intro oi ho
        simp only [List.getElem?_toArray, List.getElem?_cons_zero, Option.some.injEq] at ho
        subst ho
        refine ⟨?_, Or.inl ⟨by rfl, ?_⟩, fun _ _ _ h => h, ?_⟩
        rotate_left 1
        · intro W hW
          try dsimp only at hW
          go_simp
          try with_reducible rfl
        simp only [Act.put, List.setIfInBounds_toArray, List.set_cons_zero, List.set_cons_succ]
        refine wpG.take0 (i := 1) (by kernel_rfl) (by kernel_rfl) (by kernel_rfl) (by kernel_rfl) HS ?_
        intro oi ho
        simp only [List.getElem?_toArray, List.getElem?_cons_succ, List.getElem?_cons_zero, Option.some.injEq] at ho
        subst ho
        refine ⟨?_, Or.inl ⟨by rfl, ?_⟩, fun _ _ _ h => h, ?_⟩
        rotate_left 1
        · intro W hW
          try dsimp only at hW
          go_simp
          try with_reducible rfl
        simp only [Act.put, List.setIfInBounds_toArray, List.set_cons_zero, List.set_cons_succ]
        refine wpG.take0 (i := 2) (by kernel_rfl) (by kernel_rfl) (by kernel_rfl) (by kernel_rfl) HS ?_
        intro oi ho
        simp only [List.getElem?_toArray, List.getElem?_cons_succ, List.getElem?_cons_zero, Option.some.injEq] at ho
        subst ho
        refine ⟨?_, Or.inl ⟨by rfl, ?_⟩, fun _ _ _ h => h, ?_⟩
        rotate_left 1
        · intro W hW
          try dsimp only at hW
          go_simp
          try with_reducible rfl
        simp only [Act.put, List.setIfInBounds_toArray, List.set_cons_zero, List.set_cons_succ]
        refine wpG.take0 (i := 3) (by kernel_rfl) (by kernel_rfl) (by kernel_rfl) (by kernel_rfl) HS ?_
        intro oi ho
        simp only [List.getElem?_toArray, List.getElem?_cons_succ, List.getElem?_cons_zero, Option.some.injEq] at ho
        subst ho
        refine ⟨?_, Or.inl ⟨by rfl, ?_⟩, fun _ _ _ h => h, ?_⟩
        rotate_left 1
        · intro W hW
          try dsimp only at hW
          go_simp
          try with_reducible rfl
        simp only [Act.put, List.setIfInBounds_toArray, List.set_cons_zero, List.set_cons_succ]
        refine wpG.take0 (i := 4) (by kernel_rfl) (by kernel_rfl) (by kernel_rfl) (by kernel_rfl) HS ?_
        intro oi ho
        simp only [List.getElem?_toArray, List.getElem?_cons_succ, List.getElem?_cons_zero, Option.some.injEq] at ho
        subst ho
        refine ⟨?_, Or.inl ⟨by rfl, ?_⟩, fun _ _ _ h => h, ?_⟩
        rotate_left 1
        · intro W hW
          try dsimp only at hW
          go_simp
          try with_reducible rfl
        simp only [Act.put, List.setIfInBounds_toArray, List.set_cons_zero, List.set_cons_succ]
        refine wpG.take0 (i := 5) (by kernel_rfl) (by kernel_rfl) (by kernel_rfl) (by kernel_rfl) HS ?_
        intro oi ho
        simp only [List.getElem?_toArray, List.getElem?_cons_succ, List.getElem?_cons_zero, Option.some.injEq] at ho
        subst ho
        refine ⟨?_, Or.inl ⟨by rfl, ?_⟩, fun _ _ _ h => h, ?_⟩
        rotate_left 1
        · intro W hW
          try dsimp only at hW
          go_simp
          try with_reducible rfl
        simp only [Act.put, List.setIfInBounds_toArray, List.set_cons_zero, List.set_cons_succ]
        refine wpG.take0 (i := 6) (by kernel_rfl) (by kernel_rfl) (by kernel_rfl) (by kernel_rfl) HS ?_
        intro oi ho
        simp only [List.getElem?_toArray, List.getElem?_cons_succ, List.getElem?_cons_zero, Option.some.injEq] at ho
        subst ho
        refine ⟨?_, Or.inl ⟨by rfl, ?_⟩, fun _ _ _ h => h, ?_⟩
        rotate_left 1
        · intro W hW
          try dsimp only at hW
          go_simp
          try with_reducible rfl
        simp only [Act.put, List.setIfInBounds_toArray, List.set_cons_zero, List.set_cons_succ]
        refine wpG.take0 (i := 7) (by kernel_rfl) (by kernel_rfl) (by kernel_rfl) (by kernel_rfl) HS ?_
        intro oi ho
        simp only [List.getElem?_toArray, List.getElem?_cons_succ, List.getElem?_cons_zero, Option.some.injEq] at ho
        subst ho
        refine ⟨?_, Or.inl ⟨by rfl, ?_⟩, fun _ _ _ h => h, ?_⟩
        rotate_left 1
        · intro W hW
          try dsimp only at hW
          go_simp
          try with_reducible rfl
        simp only [Act.put, List.setIfInBounds_toArray, List.set_cons_zero, List.set_cons_succ]
        refine wpG.take0 (i := 8) (by kernel_rfl) (by kernel_rfl) (by kernel_rfl) (by kernel_rfl) HS ?_
        intro oi ho
        simp only [List.getElem?_toArray, List.getElem?_cons_succ, List.getElem?_cons_zero, Option.some.injEq] at ho
        subst ho
        refine ⟨?_, Or.inl ⟨by rfl, ?_⟩, fun _ _ _ h => h, ?_⟩
        rotate_left 1
        · intro W hW
          try dsimp only at hW
          go_simp
          try with_reducible rfl
        simp only [Act.put, List.setIfInBounds_toArray, List.set_cons_zero, List.set_cons_succ]
        refine wpG.take0 (i := 9) (by kernel_rfl) (by kernel_rfl) (by kernel_rfl) (by kernel_rfl) HS ?_
        intro oi ho
        simp only [List.getElem?_toArray, List.getElem?_cons_succ, List.getElem?_cons_zero, Option.some.injEq] at ho
        subst ho
        refine ⟨?_, Or.inl ⟨by rfl, ?_⟩, fun _ _ _ h => h, ?_⟩
        rotate_left 1
        · intro W hW
          try dsimp only at hW
          go_simp
          try with_reducible rfl
        simp only [Act.put, List.setIfInBounds_toArray, List.set_cons_zero, List.set_cons_succ]
        refine wpG.one (i := 10) (by kernel_rfl) ?_
        intro oi ho
        simp only [List.getElem?_toArray, List.getElem?_cons_succ, List.getElem?_cons_zero, Option.some.injEq] at ho
        subst ho
        intro K hK
        have HK := Lib.hid hK
        have HSH := Lib.hid HS
        clear hK HS
        have SA := SD.out.box (b := bn) hbn #[.int .i64 0, .slice none 0 0] 38
        go_simp
        refine HK.out _ _ (fun _ => ⟨HBS.out _ SA.bel, (SA.two 0).1.1, HL.out _ (HBM.out _ SA.bel)⟩) ?_
        have HS := (⟨HBS.out _ SA.bel, (SA.two 0).1.1, HL.out _ (HBM.out _ SA.bel)⟩ : _ ∧ _ ∧ _)
        try simp only [Act.put, List.setIfInBounds_toArray, List.set_cons_zero, List.set_cons_succ]
        refine wpG.one (i := 11) (by kernel_rfl) ?_
        intro oi ho
        simp only [List.getElem?_toArray, List.getElem?_cons_succ, List.getElem?_cons_zero, Option.some.injEq] at ho
        subst ho
        intro K hK
        have HK := Lib.hid hK
        have HSH := Lib.hid HS
        clear hK HS
        obtain ⟨⟨u0, u1⟩, u2, u3⟩ := SA.two 2
        go_simp
        have SB := (HSW.out.box (b := bn) hbn' #[(.int .i64 x.head), (.slice kx x.kids.length (x.kids.length + xs))] 38).drew
        refine HK.out _ _ (fun _ => ⟨HBS.out _ SB.bel, (SB.two 0).1.1, HL.out _ (HBM.out _ SB.bel)⟩) ?_
        have HS := (⟨HBS.out _ SB.bel, (SB.two 0).1.1, HL.out _ (HBM.out _ SB.bel)⟩ : _ ∧ _ ∧ _)
        try simp only [Act.put, List.setIfInBounds_toArray, List.set_cons_zero, List.set_cons_succ]
        refine wpG.one (i := 12) (by kernel_rfl) ?_
        intro oi ho
        simp only [List.getElem?_toArray, List.getElem?_cons_succ, List.getElem?_cons_zero, Option.some.injEq] at ho
        subst ho
        intro K hK
        have HK := Lib.hid hK
        have HSH := Lib.hid HS
        clear hK HS
        go_simp
        refine HK.out _ _ (fun _ => ⟨HBS.out _ SB.bel, (SB.two 0).1.1, HL.out _ (HBM.out _ SB.bel)⟩) ?_
        try simp only [Act.put, List.setIfInBounds_toArray, List.set_cons_zero, List.set_cons_succ]
        refine wpG.done (by kernel_rfl) ?_
        have HBN := Lib.hid (show bx + 2 ≤ bn by omega)
        refine SB.genX (z := bn + 1) (by simp; omega) ?_
        intro wq zq SE
        clear SB SA u0 u1 u2 u3 x0 x1 hbn hbn'
        obtain ⟨⟨x0, x0f⟩, x1, x1f⟩ := SE.two 0
        obtain ⟨⟨y0, _⟩, y1, _⟩ := SE.two 2
        have SN := Lib.hid ((SE.set2 0 rfl (.int .i64 x.head) (.slice kx x.kids.length (x.kids.length + xs)) (by have := HBX.out; omega) (by simp only [fsnoc, offs, offAll, Fct.box, and_true]; have := HBN.out; omega)).pick [0, 1])
        go_wp2_with fail
        go_roundw
        case rel => exact ⟨x, kx, xs, HX.out, (HG.out _ _ HMX.out).2.1, fun θ hθ => by rw [HCS.out θ hθ, inst_var hneg]; exact hθ _ _ HMX.out, by simp; have := HBN.out; omega, SN.out⟩
        case measure =>
          rw [HM0.out, if_pos hneg, headM_of (SN.out.two 0).1.1]
          by_cases hx : x.head < 0
          · rw [if_pos hx]
            have := HR.out _ _ _ HMX.out (has_var hx)
            omega
          · rw [if_neg hx]; omega
      · have HMX := Lib.hid hm; have HL := Lib.hid hl
        have HROOT := Lib.hid (show IsRoot N M t cur from ⟨HCV.out, fun _ => HMX.out, HCS.out⟩)
        clear hm hl hwf
        obtain ⟨bn, hbn'⟩ : ∃ b, wr.heap.size = b := ⟨_, rfl⟩
        have hbn : wr.drew.heap.size = bn := hbn'
        have SD := Lib.hid S.drew; have HSW := Lib.hid S
        clear S
        go_wp2_with fail
        refine wpG_region 99 (fun W => W.cell? ⟨bs, 0, none⟩ = some (.map (some b)) ∧ W.cell? ⟨bx, 0, none⟩ = some (.int .i64 cur.head) ∧ (Instr.lookup 163 (.map (some b)) (.int .i64 cur.head) true).run Try.prog W = .ok (.tuple #[.agg #[(.int .i64 0), (.slice none 0 0)], .bool false]) W) (by kernel_rfl) ?_
        have HS := (⟨HBS.out _ SD.out.bel, (SD.out.two 0).1.1, HL.out _ (HBM.out _ SD.out.bel)⟩ : _ ∧ _ ∧ _)
        refine wpG.take0 (i := 0) (by kernel_rfl) (by kernel_rfl) (by kernel_rfl) (by kernel_rfl) HS ?_
        intro oi ho
        simp only [List.getElem?_toArray, List.getElem?_cons_zero, Option.some.injEq] at ho
        subst ho
        refine ⟨?_, Or.inl ⟨by rfl, ?_⟩, fun _ _ _ h => h, ?_⟩
        rotate_left 1
        · intro W hW
          try dsimp only at hW
          go_simp
          try with_reducible rfl
        simp only [Act.put, List.setIfInBounds_toArray, List.set_cons_zero, List.set_cons_succ]
        refine wpG.take0 (i := 1) (by kernel_rfl) (by kernel_rfl) (by kernel_rfl) (by kernel_rfl) HS ?_
        intro oi ho
        simp only [List.getElem?_toArray, List.getElem?_cons_succ, List.getElem?_cons_zero, Option.some.injEq] at ho
        subst ho
        refine ⟨?_, Or.inl ⟨by rfl, ?_⟩, fun _ _ _ h => h, ?_⟩
        rotate_left 1
        · intro W hW
          try dsimp only at hW
          go_simp
          try with_reducible rfl
        simp only [Act.put, List.setIfInBounds_toArray, List.set_cons_zero, List.set_cons_succ]
        refine wpG.take0 (i := 2) (by kernel_rfl) (by kernel_rfl) (by kernel_rfl) (by kernel_rfl) HS ?_
        intro oi ho
        simp only [List.getElem?_toArray, List.getElem?_cons_succ, List.getElem?_cons_zero, Option.some.injEq] at ho
        subst ho
        refine ⟨?_, Or.inl ⟨by rfl, ?_⟩, fun _ _ _ h => h, ?_⟩
        rotate_left 1
        · intro W hW
          try dsimp only at hW
          go_simp
          try with_reducible rfl
        simp only [Act.put, List.setIfInBounds_toArray, List.set_cons_zero, List.set_cons_succ]
        refine wpG.take0 (i := 3) (by kernel_rfl) (by kernel_rfl) (by kernel_rfl) (by kernel_rfl) HS ?_
        intro oi ho
        simp only [List.getElem?_toArray, List.getElem?_cons_succ, List.getElem?_cons_zero, Option.some.injEq] at ho
        subst ho
        refine ⟨?_, Or.inl ⟨by rfl, ?_⟩, fun _ _ _ h => h, ?_⟩
        rotate_left 1
        · intro W hW
          try dsimp only at hW
          go_simp
          try with_reducible rfl
        simp only [Act.put, List.setIfInBounds_toArray, List.set_cons_zero, List.set_cons_succ]
        refine wpG.take0 (i := 4) (by kernel_rfl) (by kernel_rfl) (by kernel_rfl) (by kernel_rfl) HS ?_
        intro oi ho
        simp only [List.getElem?_toArray, List.getElem?_cons_succ, List.getElem?_cons_zero, Option.some.injEq] at ho
        subst ho
        refine ⟨?_, Or.inl ⟨by rfl, ?_⟩, fun _ _ _ h => h, ?_⟩
        rotate_left 1
        · intro W hW
          try dsimp only at hW
          go_simp
          try with_reducible rfl
        simp only [Act.put, List.setIfInBounds_toArray, List.set_cons_zero, List.set_cons_succ]
        refine wpG.take0 (i := 5) (by kernel_rfl) (by kernel_rfl) (by kernel_rfl) (by kernel_rfl) HS ?_
        intro oi ho
        simp only [List.getElem?_toArray, List.getElem?_cons_succ, List.getElem?_cons_zero, Option.some.injEq] at ho
        subst ho
        refine ⟨?_, Or.inl ⟨by rfl, ?_⟩, fun _ _ _ h => h, ?_⟩
        rotate_left 1
        · intro W hW
          try dsimp only at hW
          go_simp
          try with_reducible rfl
        simp only [Act.put, List.setIfInBounds_toArray, List.set_cons_zero, List.set_cons_succ]
        refine wpG.take0 (i := 6) (by kernel_rfl) (by kernel_rfl) (by kernel_rfl) (by kernel_rfl) HS ?_
        intro oi ho
        simp only [List.getElem?_toArray, List.getElem?_cons_succ, List.getElem?_cons_zero, Option.some.injEq] at ho
        subst ho
        refine ⟨?_, Or.inl ⟨by rfl, ?_⟩, fun _ _ _ h => h, ?_⟩
        rotate_left 1
        · intro W hW
          try dsimp only at hW
          go_simp
          try with_reducible rfl
        simp only [Act.put, List.setIfInBounds_toArray, List.set_cons_zero, List.set_cons_succ]
        refine wpG.take0 (i := 7) (by kernel_rfl) (by kernel_rfl) (by kernel_rfl) (by kernel_rfl) HS ?_
        intro oi ho
        simp only [List.getElem?_toArray, List.getElem?_cons_succ, List.getElem?_cons_zero, Option.some.injEq] at ho
        subst ho
        refine ⟨?_, Or.inl ⟨by rfl, ?_⟩, fun _ _ _ h => h, ?_⟩
        rotate_left 1
        · intro W hW
          try dsimp only at hW
          go_simp
          try with_reducible rfl
        simp only [Act.put, List.setIfInBounds_toArray, List.set_cons_zero, List.set_cons_succ]
        refine wpG.take0 (i := 8) (by kernel_rfl) (by kernel_rfl) (by kernel_rfl) (by kernel_rfl) HS ?_
        intro oi ho
        simp only [List.getElem?_toArray, List.getElem?_cons_succ, List.getElem?_cons_zero, Option.some.injEq] at ho
        subst ho
        refine ⟨?_, Or.inl ⟨by rfl, ?_⟩, fun _ _ _ h => h, ?_⟩
        rotate_left 1
        · intro W hW
          try dsimp only at hW
          go_simp
          try with_reducible rfl
        simp only [Act.put, List.setIfInBounds_toArray, List.set_cons_zero, List.set_cons_succ]
        refine wpG.take0 (i := 9) (by kernel_rfl) (by kernel_rfl) (by kernel_rfl) (by kernel_rfl) HS ?_
        intro oi ho
        simp only [List.getElem?_toArray, List.getElem?_cons_succ, List.getElem?_cons_zero, Option.some.injEq] at ho
        subst ho
        refine ⟨?_, Or.inl ⟨by rfl, ?_⟩, fun _ _ _ h => h, ?_⟩
        rotate_left 1
        · intro W hW
          try dsimp only at hW
          go_simp
          try with_reducible rfl
        simp only [Act.put, List.setIfInBounds_toArray, List.set_cons_zero, List.set_cons_succ]
        refine wpG.one (i := 10) (by kernel_rfl) ?_
        intro oi ho
        simp only [List.getElem?_toArray, List.getElem?_cons_succ, List.getElem?_cons_zero, Option.some.injEq] at ho
        subst ho
        intro K hK
        have HK := Lib.hid hK
        have HSH := Lib.hid HS
        clear hK HS
        have SA := SD.out.box (b := bn) hbn #[.int .i64 0, .slice none 0 0] 38
        go_simp
        refine HK.out _ _ (fun _ => ⟨HBS.out _ SA.bel, (SA.two 0).1.1, HL.out _ (HBM.out _ SA.bel)⟩) ?_
        have HS := (⟨HBS.out _ SA.bel, (SA.two 0).1.1, HL.out _ (HBM.out _ SA.bel)⟩ : _ ∧ _ ∧ _)
        try simp only [Act.put, List.setIfInBounds_toArray, List.set_cons_zero, List.set_cons_succ]
        refine wpG.one (i := 11) (by kernel_rfl) ?_
        intro oi ho
        simp only [List.getElem?_toArray, List.getElem?_cons_succ, List.getElem?_cons_zero, Option.some.injEq] at ho
        subst ho
        intro K hK
        have HK := Lib.hid hK
        have HSH := Lib.hid HS
        clear hK HS
        obtain ⟨⟨u0, u1⟩, u2, u3⟩ := SA.two 2
        go_simp
        have SB := (HSW.out.box (b := bn) hbn' #[(.int .i64 0), (.slice none 0 0)] 38).drew
        refine HK.out _ _ (fun _ => ⟨HBS.out _ SB.bel, (SB.two 0).1.1, HL.out _ (HBM.out _ SB.bel)⟩) ?_
        have HS := (⟨HBS.out _ SB.bel, (SB.two 0).1.1, HL.out _ (HBM.out _ SB.bel)⟩ : _ ∧ _ ∧ _)
        try simp only [Act.put, List.setIfInBounds_toArray, List.set_cons_zero, List.set_cons_succ]
        refine wpG.one (i := 12) (by kernel_rfl) ?_
        intro oi ho
        simp only [List.getElem?_toArray, List.getElem?_cons_succ, List.getElem?_cons_zero, Option.some.injEq] at ho
        subst ho
        intro K hK
        have HK := Lib.hid hK
        have HSH := Lib.hid HS
        clear hK HS
        go_simp
        refine HK.out _ _ (fun _ => ⟨HBS.out _ SB.bel, (SB.two 0).1.1, HL.out _ (HBM.out _ SB.bel)⟩) ?_
        try simp only [Act.put, List.setIfInBounds_toArray, List.set_cons_zero, List.set_cons_succ]
        refine wpG.done (by kernel_rfl) ?_
        have HBN := Lib.hid (show bx + 2 ≤ bn by omega)
        refine SB.genX (z := bn + 1) (by simp; omega) ?_
        intro wq zq SE
        clear SB SA u0 u1 u2 u3 x0 x1 hbn hbn'
        obtain ⟨⟨x0, _⟩, x1, _⟩ := SE.two 0
        obtain ⟨⟨y0, y1⟩, y2, y3⟩ := SE.two 1
        have SEH := Lib.hid SE
        go_wp2_with fail
        have hx1 := HBX.out
        refine ret_box2 (.int .i64 cur.head) (.slice kk cur.kids.length (cur.kids.length + cs)) (bx + 1) 38 (box2_set (SEH.out.block 1) _ _) (fun w' q0 q1 => by simp [results, Try.results154, go_sem, q0, q1]) rfl ?_
        have BEL := (SEH.out.bel.setCell (p := ⟨bx + 1, 0, none⟩) (by show w.heap.size ≤ bx + 1; omega) (.int .i64 cur.head)).setCell (p := ⟨bx + 1, 1, none⟩) (by show w.heap.size ≤ bx + 1; omega) (.slice kk cur.kids.length (cur.kids.length + cs))
        exact ⟨_, cur, rfl, HC0.out.kept BEL, HROOT.out, BEL⟩
    · have HROOT := Lib.hid (show IsRoot N M t cur from ⟨HCV.out, fun h => absurd h hneg, HCS.out⟩)
      obtain ⟨⟨x0, _⟩, x1, _⟩ := S.two 0
      obtain ⟨⟨y0, y1⟩, y2, y3⟩ := S.two 1
      have SEH := Lib.hid S
      go_wp2_with fail
      have hx1 := HBX.out
      refine ret_box2 (.int .i64 cur.head) (.slice kk cur.kids.length (cur.kids.length + cs)) (bx + 1) 38 (box2_set (SEH.out.block 1) _ _) (fun w' q0 q1 => by simp [results, Try.results154, go_sem, q0, q1]) rfl ?_
      have BEL := (SEH.out.bel.setCell (p := ⟨bx + 1, 0, none⟩) (by show w.heap.size ≤ bx + 1; omega) (.int .i64 cur.head)).setCell (p := ⟨bx + 1, 1, none⟩) (by show w.heap.size ≤ bx + 1; omega) (.slice kk cur.kids.length (cur.kids.length + cs))
      exact ⟨_, cur, rfl, HC0.out.kept BEL, HROOT.out, BEL⟩
end Go.Proofs.Ytlhnfdjidjgfgaa
