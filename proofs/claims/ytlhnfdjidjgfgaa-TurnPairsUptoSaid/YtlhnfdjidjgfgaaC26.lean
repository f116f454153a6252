/-
  Walk: region 26 of the document's Critical (the new pair), as a theorem of its own.
-/
import Derived.Test.YtlhnfdjidjgfgaaProg
import Derived.Test.YtlhnfdjidjgfgaaCr1
import Derived.Test.YtlhnfdjidjgfgaaG4
import Derived.Deep.CutBlock
import Derived.Deep.DeepCutAuto
import Derived.RegionTactic
namespace Go.Proofs.Ytlhnfdjidjgfgaa
open Go.RowKit Go.Shelf
set_option linter.unusedVariables false
set_option maxHeartbeats 400000

def findRegion (k : Nat) : Code → Option Code
  | .region j ops d => if j = k then some (.region j ops d) else none
  | .seq a b => match findRegion k a with
    | some c => some c
    | none => findRegion k b
  | .loop c => findRegion k c
  | .block _ c => findRegion k c
  | .scope c => findRegion k c
  | .cond _ a b => match findRegion k a with
    | some c => some c
    | none => findRegion k b
  | _ => none
noncomputable def code26 : Code := ((Try.f54.body.bind (findRegion 26)).getD .skip)

set_option maxRecDepth 1000000 in
set_option maxHeartbeats 8000000 in
theorem region26 (w20 : World) (X1 X2 YR : T) (Ls : List T) (at_ : List Int) (b off i pb poff m b9 rn rc pn pc vN rc2 sx1 sx2 ats sr : Nat) (kx1 kx2 atk kr ro2 : Option Addr) (c1 c2 c3 c4 c6 c7 c8 c10 c13 c14 c16 c17 c18 c19 c20 c21 c22 c23 c24 c25 c26 c27 c28 c29 c30 c31 c32 c33 c34 c35 c36 c37 c38 c39 c40 c41 c42 c43 c44 c45 c46 c47 c48 c49 c50 c51 c52 c53 c54 c55 c56 c57 c58 c59 c60 c61 c62 c63 c64 c65 c66 c67 c68 c69 c70 c71 c72 c73 c74 c75 c76 c77 c78 c79 c80 c81 c82 c83 c84 c85 c86 c87 c88 c89 c90 c91 c92 c93 c94 c95 c96 c97 c98 c99 c100 c101 c102 c103 c104 c105 c106 c107 c108 c109 c110 c111 c112 c113 c114 c115 c116 c117 c118 c119 c120 c121 c122 c123 c124 c125 c126 c127 c128 c129 c130 c131 c132 c133 c134 c135 c136 c137 c138 c139 c140 c141 c142 c143 c144 c145 c146 c147 c148 c149 c150 c151 c152 c153 c154 c155 c156 c157 c158 c159 c160 c161 c162 : Value)
    (hi : (i : Int) < (rn : Int)) (hm : (m : Int) < (pn : Int)) (hc : w20.cell? ⟨b, off + i * 4, none⟩ = some (.int .i64 X1.head) ∧ w20.cell? ⟨b, off + i * 4 + 1, none⟩ = some (.slice kx1 X1.kids.length (X1.kids.length + sx1)) ∧ w20.cell? ⟨b, off + i * 4 + 2, none⟩ = some (.int .i64 X2.head) ∧ w20.cell? ⟨b, off + i * 4 + 3, none⟩ = some (.slice kx2 X2.kids.length (X2.kids.length + sx2)) ∧ w20.cell? ⟨pb, poff + m, none⟩ = some (.slice atk at_.length (at_.length + ats)) ∧ w20.cell? ⟨b9, 0, none⟩ = some (.int .i64 YR.head) ∧ w20.cell? ⟨b9, 1, none⟩ = some (.slice kr YR.kids.length (YR.kids.length + sr)))
    (t1 : TreeN w20 kx1 sx1 X1) (t2 : TreeN w20 kx2 sx2 X2) (t3 : TreeN w20 kr sr YR) (hrow : RowP (fun b => b < w20.heap.size) w20 ro2 Ls) (hat : CellsAt w20 atk at_.length (fun j => .int .i64 (gI at_ j)))
    (hln : Ls.length = vN) (hvn : vN ≤ 1000) (hps : (T.withAt at_ X1 YR).low ∧ (T.withAt at_ X1 YR).size ≤ 100000000 ∧ X2.low ∧ X2.size ≤ 100000000) (hx1 : X1.size ≤ 100000000) (hpb : ∀ z ∈ at_, 1 ≤ z ∧ z ≤ 100000000)
    (htm : ((T.withAt at_ X1 YR).sub Ls).size ≤ 10000 ∧ (X2.sub Ls).size ≤ 10000) (Q : Exit → Act → World → Prop) (hpan : ∀ c (x : Act) (d : Nat) (v : Value) W, Q (.panic c) (x.put (some d) v) W → Q (.panic c) x W)
    (hQ : ∀ (W : World) (b17 nb no np : Nat) (n1 n2 : Option Addr) (m1 m2 : Nat), w20.heap.size ≤ b17 → b17 + 1 ≤ W.heap.size → St w20 W [.box b17 #[.slice (some ⟨nb, no, none⟩) 1 (1 + np)] 41] → NormN w20.heap.size W nb no n1 n2 m1 m2 (npair ((T.withAt at_ X1 YR).sub Ls) (X2.sub Ls)) b17 →
      ∀ u106 u107 u108 u109 u110 u111 u112 u113 u114 u115 u116 u117 u118 u119 u120 u121 u122 u123 u124 u125 u126 u127 u128 u129 : Value, Q .normal ⟨List.toArray (.slice (some ⟨b, off, none⟩) rn rc :: c1 :: c2 :: c3 :: c4 :: .int .i64 (i : Int) :: c6 :: c7 :: c8 :: .pointer (some ⟨b9, 0, none⟩) :: c10 :: .slice (some ⟨pb, poff, none⟩) pn pc :: .int .i64 (m : Int) :: c13 :: c14 :: .slice ro2 vN rc2 :: c16 :: .pointer (some ⟨b17, 0, none⟩) :: c18 :: c19 :: c20 :: c21 :: c22 :: c23 :: c24 :: c25 :: c26 :: c27 :: c28 :: c29 :: c30 :: c31 :: c32 :: c33 :: c34 :: c35 :: c36 :: c37 :: c38 :: c39 :: c40 :: c41 :: c42 :: c43 :: c44 :: c45 :: c46 :: c47 :: c48 :: c49 :: c50 :: c51 :: c52 :: c53 :: c54 :: c55 :: c56 :: c57 :: c58 :: c59 :: c60 :: c61 :: c62 :: c63 :: c64 :: c65 :: c66 :: c67 :: c68 :: c69 :: c70 :: c71 :: c72 :: c73 :: c74 :: c75 :: c76 :: c77 :: c78 :: c79 :: c80 :: c81 :: c82 :: c83 :: c84 :: c85 :: c86 :: c87 :: c88 :: c89 :: c90 :: c91 :: c92 :: c93 :: c94 :: c95 :: c96 :: c97 :: c98 :: c99 :: c100 :: c101 :: c102 :: c103 :: c104 :: c105 :: u106 :: u107 :: u108 :: u109 :: u110 :: u111 :: u112 :: u113 :: u114 :: u115 :: u116 :: u117 :: u118 :: u119 :: u120 :: u121 :: u122 :: u123 :: u124 :: u125 :: u126 :: u127 :: u128 :: u129 :: c130 :: c131 :: c132 :: c133 :: c134 :: c135 :: c136 :: c137 :: c138 :: c139 :: c140 :: c141 :: c142 :: c143 :: c144 :: c145 :: c146 :: c147 :: c148 :: c149 :: c150 :: c151 :: c152 :: c153 :: c154 :: c155 :: c156 :: c157 :: c158 :: c159 :: c160 :: c161 :: c162 :: []), []⟩ W) :
    Code.wp Try.prog code26 Q ⟨List.toArray (.slice (some ⟨b, off, none⟩) rn rc :: c1 :: c2 :: c3 :: c4 :: .int .i64 (i : Int) :: c6 :: c7 :: c8 :: .pointer (some ⟨b9, 0, none⟩) :: c10 :: .slice (some ⟨pb, poff, none⟩) pn pc :: .int .i64 (m : Int) :: c13 :: c14 :: .slice ro2 vN rc2 :: c16 :: c17 :: c18 :: c19 :: c20 :: c21 :: c22 :: c23 :: c24 :: c25 :: c26 :: c27 :: c28 :: c29 :: c30 :: c31 :: c32 :: c33 :: c34 :: c35 :: c36 :: c37 :: c38 :: c39 :: c40 :: c41 :: c42 :: c43 :: c44 :: c45 :: c46 :: c47 :: c48 :: c49 :: c50 :: c51 :: c52 :: c53 :: c54 :: c55 :: c56 :: c57 :: c58 :: c59 :: c60 :: c61 :: c62 :: c63 :: c64 :: c65 :: c66 :: c67 :: c68 :: c69 :: c70 :: c71 :: c72 :: c73 :: c74 :: c75 :: c76 :: c77 :: c78 :: c79 :: c80 :: c81 :: c82 :: c83 :: c84 :: c85 :: c86 :: c87 :: c88 :: c89 :: c90 :: c91 :: c92 :: c93 :: c94 :: c95 :: c96 :: c97 :: c98 :: c99 :: c100 :: c101 :: c102 :: c103 :: c104 :: c105 :: c106 :: c107 :: c108 :: c109 :: c110 :: c111 :: c112 :: c113 :: c114 :: c115 :: c116 :: c117 :: c118 :: c119 :: c120 :: c121 :: c122 :: c123 :: c124 :: c125 :: c126 :: c127 :: c128 :: c129 :: c130 :: c131 :: c132 :: c133 :: c134 :: c135 :: c136 :: c137 :: c138 :: c139 :: c140 :: c141 :: c142 :: c143 :: c144 :: c145 :: c146 :: c147 :: c148 :: c149 :: c150 :: c151 :: c152 :: c153 :: c154 :: c155 :: c156 :: c157 :: c158 :: c159 :: c160 :: c161 :: c162 :: []), []⟩ w20 := by
  have HQ := Lib.hid hQ
  have HPAN := Lib.hid hpan
  have HLN := Lib.hid hln; have HTM := Lib.hid htm
  have SD := Lib.hid (St.start w20).drew
  have HBd := Lib.hid (Below.refl w20.heap.size w20).drew
  have FC := Lib.hid (show ∀ W, Below w20.heap.size w20 W → (W.cell? ⟨b, off + i * 4, none⟩ = some (.int .i64 X1.head) ∧ W.cell? ⟨b, off + i * 4 + 1, none⟩ = some (.slice kx1 X1.kids.length (X1.kids.length + sx1)) ∧ W.cell? ⟨b, off + i * 4 + 2, none⟩ = some (.int .i64 X2.head) ∧ W.cell? ⟨b, off + i * 4 + 3, none⟩ = some (.slice kx2 X2.kids.length (X2.kids.length + sx2)) ∧ W.cell? ⟨pb, poff + m, none⟩ = some (.slice atk at_.length (at_.length + ats)) ∧ W.cell? ⟨b9, 0, none⟩ = some (.int .i64 YR.head) ∧ W.cell? ⟨b9, 1, none⟩ = some (.slice kr YR.kids.length (YR.kids.length + sr))) from fun W hb => ⟨Below.cellOf hb hc.1, Below.cellOf hb hc.2.1, Below.cellOf hb hc.2.2.1, Below.cellOf hb hc.2.2.2.1, Below.cellOf hb hc.2.2.2.2.1, Below.cellOf hb hc.2.2.2.2.2.1, Below.cellOf hb hc.2.2.2.2.2.2⟩)
  have HLD := Lib.hid (fun (W : World) (hb : Below w20.heap.size w20 W) => laidC YR X1 at_ kx1 kr sx1 sr atk (at_.length + ats) W (t1.kept hb) (t3.kept hb) (hat.below hb) (Nat.le_add_right _ _) hx1 hpb)
  have HW1 := Lib.hid (fun (W : World) (k : Option Addr) (sp : Nat) (hb : Below w20.heap.size w20 W) (ht : TreeN W k sp (T.withAt at_ X1 YR)) => withCn Ls vN HLN.out (T.withAt at_ X1 YR) k sp ro2 rc2 W hvn ht ((hrow.kept hb).mono (fun b h h2 => h2)) hps.1 hps.2.1)
  have HW2 := Lib.hid (fun (W : World) (hb : Below w20.heap.size w20 W) => withCn Ls vN HLN.out X2 kx2 sx2 ro2 rc2 W hvn (t2.kept hb) ((hrow.kept hb).mono (fun b h h2 => h2)) hps.2.2.1 hps.2.2.2)
  clear hQ hpan hc t1 t2 t3 hrow hat hln hvn hps hx1 hpb htm
  unfold code26
  conv => arg 2; whnf
  refine wpH_region [25] (fun W => W.cell? ⟨b, off + i * 4, none⟩ = some (.int .i64 X1.head) ∧ W.cell? ⟨b, off + i * 4 + 1, none⟩ = some (.slice kx1 X1.kids.length (X1.kids.length + sx1)) ∧ W.cell? ⟨b, off + i * 4 + 2, none⟩ = some (.int .i64 X2.head) ∧ W.cell? ⟨b, off + i * 4 + 3, none⟩ = some (.slice kx2 X2.kids.length (X2.kids.length + sx2)) ∧ W.cell? ⟨pb, poff + m, none⟩ = some (.slice atk at_.length (at_.length + ats)) ∧ W.cell? ⟨b9, 0, none⟩ = some (.int .i64 YR.head) ∧ W.cell? ⟨b9, 1, none⟩ = some (.slice kr YR.kids.length (YR.kids.length + sr))) (by kernel_rfl) ?_
  have HS := FC.out _ HBd.out
  refine wpH.take (i := 0) (by kernel_rfl) (by kernel_rfl) (by kernel_rfl) (by kernel_rfl) (by kernel_rfl) HS ?_
  intro oi ho
  simp only [List.getElem?_toArray, List.getElem?_cons_zero, Option.some.injEq] at ho
  subst ho
  refine ⟨?_, Or.inl ⟨by rfl, ?_⟩, fun _ _ _ h => HPAN.out _ _ _ _ _ h, ?_⟩
  rotate_left 1
  · intro W hW
    try dsimp only at hW
    go_simp
    try with_reducible rfl
  simp only [Act.put, List.setIfInBounds_toArray, List.set_cons_zero, List.set_cons_succ]
  refine wpH.take (i := 1) (by kernel_rfl) (by kernel_rfl) (by kernel_rfl) (by kernel_rfl) (by kernel_rfl) HS ?_
  intro oi ho
  simp only [List.getElem?_toArray, List.getElem?_cons_succ, List.getElem?_cons_zero, Option.some.injEq] at ho
  subst ho
  refine ⟨?_, Or.inl ⟨by rfl, ?_⟩, fun _ _ _ h => HPAN.out _ _ _ _ _ h, ?_⟩
  rotate_left 1
  · intro W hW
    try dsimp only at hW
    go_simp
    try with_reducible rfl
  simp only [Act.put, List.setIfInBounds_toArray, List.set_cons_zero, List.set_cons_succ]
  refine wpH.take (i := 2) (by kernel_rfl) (by kernel_rfl) (by kernel_rfl) (by kernel_rfl) (by kernel_rfl) HS ?_
  intro oi ho
  simp only [List.getElem?_toArray, List.getElem?_cons_succ, List.getElem?_cons_zero, Option.some.injEq] at ho
  subst ho
  refine ⟨?_, Or.inl ⟨by rfl, ?_⟩, fun _ _ _ h => HPAN.out _ _ _ _ _ h, ?_⟩
  rotate_left 1
  · intro W hW
    try dsimp only at hW
    go_simp
    try with_reducible rfl
  simp only [Act.put, List.setIfInBounds_toArray, List.set_cons_zero, List.set_cons_succ]
  refine wpH.take (i := 3) (by kernel_rfl) (by kernel_rfl) (by kernel_rfl) (by kernel_rfl) (by kernel_rfl) HS ?_
  intro oi ho
  simp only [List.getElem?_toArray, List.getElem?_cons_succ, List.getElem?_cons_zero, Option.some.injEq] at ho
  subst ho
  refine ⟨?_, Or.inl ⟨by rfl, ?_⟩, fun _ _ _ h => HPAN.out _ _ _ _ _ h, ?_⟩
  rotate_left 1
  · intro W hW
    try dsimp only at hW
    go_simp
    try with_reducible rfl
  simp only [Act.put, List.setIfInBounds_toArray, List.set_cons_zero, List.set_cons_succ]
  refine wpH.take (i := 4) (by kernel_rfl) (by kernel_rfl) (by kernel_rfl) (by kernel_rfl) (by kernel_rfl) HS ?_
  intro oi ho
  simp only [List.getElem?_toArray, List.getElem?_cons_succ, List.getElem?_cons_zero, Option.some.injEq] at ho
  subst ho
  refine ⟨?_, Or.inl ⟨by rfl, ?_⟩, fun _ _ _ h => HPAN.out _ _ _ _ _ h, ?_⟩
  rotate_left 1
  · intro W hW
    try dsimp only at hW
    go_simp
    try with_reducible rfl
  simp only [Act.put, List.setIfInBounds_toArray, List.set_cons_zero, List.set_cons_succ]
  refine wpH.take (i := 5) (by kernel_rfl) (by kernel_rfl) (by kernel_rfl) (by kernel_rfl) (by kernel_rfl) HS ?_
  intro oi ho
  simp only [List.getElem?_toArray, List.getElem?_cons_succ, List.getElem?_cons_zero, Option.some.injEq] at ho
  subst ho
  refine ⟨?_, Or.inl ⟨by rfl, ?_⟩, fun _ _ _ h => HPAN.out _ _ _ _ _ h, ?_⟩
  rotate_left 1
  · intro W hW
    try dsimp only at hW
    go_simp
    try with_reducible rfl
  simp only [Act.put, List.setIfInBounds_toArray, List.set_cons_zero, List.set_cons_succ]
  refine wpH.take (i := 6) (by kernel_rfl) (by kernel_rfl) (by kernel_rfl) (by kernel_rfl) (by kernel_rfl) HS ?_
  intro oi ho
  simp only [List.getElem?_toArray, List.getElem?_cons_succ, List.getElem?_cons_zero, Option.some.injEq] at ho
  subst ho
  refine ⟨?_, Or.inl ⟨by rfl, ?_⟩, fun _ _ _ h => HPAN.out _ _ _ _ _ h, ?_⟩
  rotate_left 1
  · intro W hW
    try dsimp only at hW
    go_simp
    try with_reducible rfl
  simp only [Act.put, List.setIfInBounds_toArray, List.set_cons_zero, List.set_cons_succ]
  refine wpH.take (i := 7) (by kernel_rfl) (by kernel_rfl) (by kernel_rfl) (by kernel_rfl) (by kernel_rfl) HS ?_
  intro oi ho
  simp only [List.getElem?_toArray, List.getElem?_cons_succ, List.getElem?_cons_zero, Option.some.injEq] at ho
  subst ho
  refine ⟨?_, Or.inl ⟨by rfl, ?_⟩, fun _ _ _ h => HPAN.out _ _ _ _ _ h, ?_⟩
  rotate_left 1
  · intro W hW
    try dsimp only at hW
    go_simp
    try with_reducible rfl
  simp only [Act.put, List.setIfInBounds_toArray, List.set_cons_zero, List.set_cons_succ]
  refine wpH.take (i := 8) (by kernel_rfl) (by kernel_rfl) (by kernel_rfl) (by kernel_rfl) (by kernel_rfl) HS ?_
  intro oi ho
  simp only [List.getElem?_toArray, List.getElem?_cons_succ, List.getElem?_cons_zero, Option.some.injEq] at ho
  subst ho
  refine ⟨?_, Or.inl ⟨by rfl, ?_⟩, fun _ _ _ h => HPAN.out _ _ _ _ _ h, ?_⟩
  rotate_left 1
  · intro W hW
    try dsimp only at hW
    go_simp
    try with_reducible rfl
  simp only [Act.put, List.setIfInBounds_toArray, List.set_cons_zero, List.set_cons_succ]
  refine wpH.take (i := 9) (by kernel_rfl) (by kernel_rfl) (by kernel_rfl) (by kernel_rfl) (by kernel_rfl) HS ?_
  intro oi ho
  simp only [List.getElem?_toArray, List.getElem?_cons_succ, List.getElem?_cons_zero, Option.some.injEq] at ho
  subst ho
  refine ⟨?_, Or.inl ⟨by rfl, ?_⟩, fun _ _ _ h => HPAN.out _ _ _ _ _ h, ?_⟩
  rotate_left 1
  · intro W hW
    try dsimp only at hW
    go_simp
    try with_reducible rfl
  simp only [Act.put, List.setIfInBounds_toArray, List.set_cons_zero, List.set_cons_succ]
  refine wpH.take (i := 11) (by kernel_rfl) (by kernel_rfl) (by kernel_rfl) (by kernel_rfl) (by kernel_rfl) HS ?_
  intro oi ho
  simp only [List.getElem?_toArray, List.getElem?_cons_succ, List.getElem?_cons_zero, Option.some.injEq] at ho
  subst ho
  refine ⟨?_, Or.inl ⟨by rfl, ?_⟩, fun _ _ _ h => HPAN.out _ _ _ _ _ h, ?_⟩
  rotate_left 1
  · intro W hW
    try dsimp only at hW
    go_simp
    try with_reducible rfl
  simp only [Act.put, List.setIfInBounds_toArray, List.set_cons_zero, List.set_cons_succ]
  refine wpH.take (i := 13) (by kernel_rfl) (by kernel_rfl) (by kernel_rfl) (by kernel_rfl) (by kernel_rfl) HS ?_
  intro oi ho
  simp only [List.getElem?_toArray, List.getElem?_cons_succ, List.getElem?_cons_zero, Option.some.injEq] at ho
  subst ho
  refine ⟨?_, Or.inl ⟨by rfl, ?_⟩, fun _ _ _ h => HPAN.out _ _ _ _ _ h, ?_⟩
  rotate_left 1
  · intro W hW
    try dsimp only at hW
    go_simp
    try with_reducible rfl
  simp only [Act.put, List.setIfInBounds_toArray, List.set_cons_zero, List.set_cons_succ]
  refine wpH.take (i := 14) (by kernel_rfl) (by kernel_rfl) (by kernel_rfl) (by kernel_rfl) (by kernel_rfl) HS ?_
  intro oi ho
  simp only [List.getElem?_toArray, List.getElem?_cons_succ, List.getElem?_cons_zero, Option.some.injEq] at ho
  subst ho
  refine ⟨?_, Or.inl ⟨by rfl, ?_⟩, fun _ _ _ h => HPAN.out _ _ _ _ _ h, ?_⟩
  rotate_left 1
  · intro W hW
    try dsimp only at hW
    go_simp
    try with_reducible rfl
  simp only [Act.put, List.setIfInBounds_toArray, List.set_cons_zero, List.set_cons_succ]
  refine wpH.take (i := 15) (by kernel_rfl) (by kernel_rfl) (by kernel_rfl) (by kernel_rfl) (by kernel_rfl) HS ?_
  intro oi ho
  simp only [List.getElem?_toArray, List.getElem?_cons_succ, List.getElem?_cons_zero, Option.some.injEq] at ho
  subst ho
  refine ⟨?_, Or.inl ⟨by rfl, ?_⟩, fun _ _ _ h => HPAN.out _ _ _ _ _ h, ?_⟩
  rotate_left 1
  · intro W hW
    try dsimp only at hW
    go_simp
    try with_reducible rfl
  simp only [Act.put, List.setIfInBounds_toArray, List.set_cons_zero, List.set_cons_succ]
  refine wpH.take (i := 16) (by kernel_rfl) (by kernel_rfl) (by kernel_rfl) (by kernel_rfl) (by kernel_rfl) HS ?_
  intro oi ho
  simp only [List.getElem?_toArray, List.getElem?_cons_succ, List.getElem?_cons_zero, Option.some.injEq] at ho
  subst ho
  refine ⟨?_, Or.inl ⟨by rfl, ?_⟩, fun _ _ _ h => HPAN.out _ _ _ _ _ h, ?_⟩
  rotate_left 1
  · intro W hW
    try dsimp only at hW
    go_simp
    try with_reducible rfl
  simp only [Act.put, List.setIfInBounds_toArray, List.set_cons_zero, List.set_cons_succ]
  refine wpH.take (i := 17) (by kernel_rfl) (by kernel_rfl) (by kernel_rfl) (by kernel_rfl) (by kernel_rfl) HS ?_
  intro oi ho
  simp only [List.getElem?_toArray, List.getElem?_cons_succ, List.getElem?_cons_zero, Option.some.injEq] at ho
  subst ho
  refine ⟨?_, Or.inl ⟨by rfl, ?_⟩, fun _ _ _ h => HPAN.out _ _ _ _ _ h, ?_⟩
  rotate_left 1
  · intro W hW
    try dsimp only at hW
    go_simp
    try with_reducible rfl
  simp only [Act.put, List.setIfInBounds_toArray, List.set_cons_zero, List.set_cons_succ]
  refine wpH.take (i := 18) (by kernel_rfl) (by kernel_rfl) (by kernel_rfl) (by kernel_rfl) (by kernel_rfl) HS ?_
  intro oi ho
  simp only [List.getElem?_toArray, List.getElem?_cons_succ, List.getElem?_cons_zero, Option.some.injEq] at ho
  subst ho
  refine ⟨?_, Or.inl ⟨by rfl, ?_⟩, fun _ _ _ h => HPAN.out _ _ _ _ _ h, ?_⟩
  rotate_left 1
  · intro W hW
    try dsimp only at hW
    go_simp
    try with_reducible rfl
  simp only [Act.put, List.setIfInBounds_toArray, List.set_cons_zero, List.set_cons_succ]
  refine wpH.two (i := 10) (j := 24) (by kernel_rfl) ?_ ?_
  · intro oi ho
    simp only [List.getElem?_toArray, List.getElem?_cons_succ, List.getElem?_cons_zero, Option.some.injEq] at ho
    subst ho
    intro K' hK
    have HK := Lib.hid hK
    clear hK
    go_simp
    go_at_call 104
    refine (HLD.out _ HBd.out).mono ?_
    rintro e v31 ⟨k7, s7, rfl, ht, hbn⟩
    have S31 := Lib.hid (SD.out.step hbn)
    have HB31 := Lib.hid (Below.step HBd.out hbn)
    have HT1 := Lib.hid ht
    clear ht hbn
    dsimp only
    refine HK.out _ _ (fun _ => FC.out _ HB31.out) ?_
    have HS := FC.out _ HB31.out
    try simp only [Act.put, List.setIfInBounds_toArray, List.set_cons_zero, List.set_cons_succ]
    refine wpH.two (i := 12) (j := 24) (by kernel_rfl) ?_ ?_
    · intro oi ho
      simp only [List.getElem?_toArray, List.getElem?_cons_succ, List.getElem?_cons_zero, Option.some.injEq] at ho
      subst ho
      intro K' hK
      have HK := Lib.hid hK
      clear hK
      go_simp
      go_at_call 60
      have HC := HW1.out _ _ _ HB31.out HT1.out
      refine HC.mono ?_
      clear HC
      rintro e v32 ⟨k8, s8, rfl, ht, hbn⟩
      have S32 := Lib.hid (S31.out.step hbn)
      have HB32 := Lib.hid (Below.step HB31.out hbn)
      have HT2 := Lib.hid ht
      clear ht hbn
      dsimp only
      refine HK.out _ _ (fun _ => FC.out _ HB32.out) ?_
      have HS := FC.out _ HB32.out
      try simp only [Act.put, List.setIfInBounds_toArray, List.set_cons_zero, List.set_cons_succ]
      refine wpH.two (i := 19) (j := 24) (by kernel_rfl) ?_ ?_
      · intro oi ho
        simp only [List.getElem?_toArray, List.getElem?_cons_succ, List.getElem?_cons_zero, Option.some.injEq] at ho
        subst ho
        intro K' hK
        have HK := Lib.hid hK
        clear hK
        go_simp
        go_at_call 60
        have HC := HW2.out _ HB32.out
        refine HC.mono ?_
        clear HC
        rintro e v33 ⟨k9, s9, rfl, ht, hbn⟩
        have S33 := Lib.hid (S32.out.step hbn)
        have HB33 := Lib.hid (Below.step HB32.out hbn)
        have HT2b := Lib.hid (HT2.out.kept hbn)
        have HT3 := Lib.hid ht
        clear ht hbn
        dsimp only
        refine HK.out _ _ (fun _ => FC.out _ HB33.out) ?_
        have HS := FC.out _ HB33.out
        try simp only [Act.put, List.setIfInBounds_toArray, List.set_cons_zero, List.set_cons_succ]
        refine wpH.take (i := 20) (by kernel_rfl) (by kernel_rfl) (by kernel_rfl) (by kernel_rfl) (by kernel_rfl) HS ?_
        intro oi ho
        simp only [List.getElem?_toArray, List.getElem?_cons_succ, List.getElem?_cons_zero, Option.some.injEq] at ho
        subst ho
        refine ⟨?_, Or.inl ⟨by rfl, ?_⟩, fun _ _ _ h => HPAN.out _ _ _ _ _ h, ?_⟩
        rotate_left 1
        · intro W hW
          try dsimp only at hW
          go_simp
          try with_reducible rfl
        simp only [Act.put, List.setIfInBounds_toArray, List.set_cons_zero, List.set_cons_succ]
        refine wpH.two (i := 21) (j := 24) (by kernel_rfl) ?_ ?_
        · intro oi ho
          simp only [List.getElem?_toArray, List.getElem?_cons_succ, List.getElem?_cons_zero, Option.some.injEq] at ho
          subst ho
          intro K' hK
          have HK := Lib.hid hK
          clear hK
          go_simp
          obtain ⟨g, hg⟩ : ∃ b, b = v33.heap.size := ⟨_, rfl⟩
          have R34 := S33.out.box (b := g) hg.symm #[.bool false, .int .i64 ((T.withAt at_ X1 YR).sub Ls).head, .slice k8 ((T.withAt at_ X1 YR).sub Ls).kids.length (((T.withAt at_ X1 YR).sub Ls).kids.length + s8), .int .i64 (X2.sub Ls).head, .slice k9 (X2.sub Ls).kids.length ((X2.sub Ls).kids.length + s9)] 62
          have HB34 := Lib.hid (HB33.out.alloc HB33.out.size (.cells #[.bool false, .int .i64 ((T.withAt at_ X1 YR).sub Ls).head, .slice k8 ((T.withAt at_ X1 YR).sub Ls).kids.length (((T.withAt at_ X1 YR).sub Ls).kids.length + s8), .int .i64 (X2.sub Ls).head, .slice k9 (X2.sub Ls).kids.length ((X2.sub Ls).kids.length + s9)] 62))
          have HF : Hid (FactN (v33.alloc (.cells #[.bool false, .int .i64 ((T.withAt at_ X1 YR).sub Ls).head, .slice k8 ((T.withAt at_ X1 YR).sub Ls).kids.length (((T.withAt at_ X1 YR).sub Ls).kids.length + s8), .int .i64 (X2.sub Ls).head, .slice k9 (X2.sub Ls).kids.length ((X2.sub Ls).kids.length + s9)] 62)) g k8 k9 s8 s9 ((T.withAt at_ X1 YR).sub Ls) (X2.sub Ls)) := Lib.hid ⟨(R34.cell 0 0 rfl).1, (R34.cell 0 1 rfl).1, (R34.cell 0 2 rfl).1, (R34.cell 0 3 rfl).1, (R34.cell 0 4 rfl).1⟩
          have S34 := R34.pick []
          have HT2bb := Lib.hid (HT2b.out.kept ((Below.refl _ v33).alloc (Nat.le_refl _) (.cells #[.bool false, .int .i64 ((T.withAt at_ X1 YR).sub Ls).head, .slice k8 ((T.withAt at_ X1 YR).sub Ls).kids.length (((T.withAt at_ X1 YR).sub Ls).kids.length + s8), .int .i64 (X2.sub Ls).head, .slice k9 (X2.sub Ls).kids.length ((X2.sub Ls).kids.length + s9)] 62)))
          have HT3b := Lib.hid (HT3.out.kept ((Below.refl _ v33).alloc (Nat.le_refl _) (.cells #[.bool false, .int .i64 ((T.withAt at_ X1 YR).sub Ls).head, .slice k8 ((T.withAt at_ X1 YR).sub Ls).kids.length (((T.withAt at_ X1 YR).sub Ls).kids.length + s8), .int .i64 (X2.sub Ls).head, .slice k9 (X2.sub Ls).kids.length ((X2.sub Ls).kids.length + s9)] 62)))
          have HG := Lib.hid (show g < (v33.alloc (.cells #[.bool false, .int .i64 ((T.withAt at_ X1 YR).sub Ls).head, .slice k8 ((T.withAt at_ X1 YR).sub Ls).kids.length (((T.withAt at_ X1 YR).sub Ls).kids.length + s8), .int .i64 (X2.sub Ls).head, .slice k9 (X2.sub Ls).kids.length ((X2.sub Ls).kids.length + s9)] 62)).heap.size by simp [hg])
          try rw [← hg]
          refine HK.out _ _ (fun _ => FC.out _ HB34.out) ?_
          clear R34
          generalize hWA34 : (v33.alloc (.cells #[.bool false, .int .i64 ((T.withAt at_ X1 YR).sub Ls).head, .slice k8 ((T.withAt at_ X1 YR).sub Ls).kids.length (((T.withAt at_ X1 YR).sub Ls).kids.length + s8), .int .i64 (X2.sub Ls).head, .slice k9 (X2.sub Ls).kids.length ((X2.sub Ls).kids.length + s9)] 62)) = v34 at S34 HB34 HG HF HT2bb HT3b ⊢
          clear hWA34 hg
          have S34 := Lib.hid S34
          have HS := FC.out _ HB34.out
          try simp only [Act.put, List.setIfInBounds_toArray, List.set_cons_zero, List.set_cons_succ]
          refine wpH.take (i := 22) (by kernel_rfl) (by kernel_rfl) (by kernel_rfl) (by kernel_rfl) (by kernel_rfl) HS ?_
          intro oi ho
          simp only [List.getElem?_toArray, List.getElem?_cons_succ, List.getElem?_cons_zero, Option.some.injEq] at ho
          subst ho
          refine ⟨?_, Or.inl ⟨by rfl, ?_⟩, fun _ _ _ h => HPAN.out _ _ _ _ _ h, ?_⟩
          rotate_left 1
          · intro W hW
            try dsimp only at hW
            go_simp
            try with_reducible rfl
          simp only [Act.put, List.setIfInBounds_toArray, List.set_cons_zero, List.set_cons_succ]
          refine wpH.two (i := 23) (j := 24) (by kernel_rfl) ?_ ?_
          · intro oi ho
            simp only [List.getElem?_toArray, List.getElem?_cons_succ, List.getElem?_cons_zero, Option.some.injEq] at ho
            subst ho
            intro K' hK
            have HK := Lib.hid hK
            clear hK
            go_simp
            go_at_call 50
            refine (normC ((T.withAt at_ X1 YR).sub Ls) (X2.sub Ls) _ _ _ _ _ _ HG.out HF.out HT2bb.out HT3b.out HTM.out).mono ?_
            rintro e v35 ⟨nb, no, np, n1, m1, n2, m2, rfl, hn1, hn2, c1, c2, c3, c4, t1, t2, hbn⟩
            have S35 := Lib.hid (S34.out.step hbn)
            have HB35 := Lib.hid (Below.step HB34.out hbn)
            have HX : Hid (NormN w20.heap.size v35 nb no n1 n2 m1 m2 (npair ((T.withAt at_ X1 YR).sub Ls) (X2.sub Ls)) v35.heap.size) := Lib.hid ⟨Nat.le_trans HB34.out.size hn1, Nat.ne_of_lt hn2, c1, c2, c3, c4, t1.mono (fun c (h : v34.heap.size ≤ c) h2 => ⟨Nat.le_trans HB34.out.size h, Nat.ne_of_lt h2⟩), t2.mono (fun c (h : v34.heap.size ≤ c) h2 => ⟨Nat.le_trans HB34.out.size h, Nat.ne_of_lt h2⟩)⟩
            clear hn1 hn2 c1 c2 c3 c4 t1 t2 hbn
            dsimp only
            refine HK.out _ _ (fun _ => FC.out _ HB35.out) ?_
            have HS := FC.out _ HB35.out
            try simp only [Act.put, List.setIfInBounds_toArray, List.set_cons_zero, List.set_cons_succ]
            refine wpH.one (i := 24) (by kernel_rfl) ?_
            intro oi ho
            simp only [List.getElem?_toArray, List.getElem?_cons_succ, List.getElem?_cons_zero, Option.some.injEq] at ho
            subst ho
            intro K' hK
            have HK := Lib.hid hK
            clear hK
            go_simp
            obtain ⟨b17, hbc⟩ : ∃ b, b = v35.heap.size := ⟨_, rfl⟩
            have S36 := S35.out.box (b := b17) hbc.symm #[.slice none 0 0] 41
            have HB36 := Lib.hid (HB35.out.alloc HB35.out.size (.cells #[.slice none 0 0] 41))
            have HBC := Lib.hid (show w20.heap.size ≤ b17 by have h := HB35.out.size; omega)
            have HXa := Lib.hid (normN_alloc HX.out hbc (.cells #[.slice none 0 0] 41))
            have hz36 : b17 + 1 ≤ ((v35.alloc (.cells #[.slice none 0 0] 41))).heap.size := by simp [hbc]
            try rw [← hbc]
            refine HK.out _ _ (fun _ => FC.out _ HB36.out) ?_
            generalize hWA36 : (v35.alloc (.cells #[.slice none 0 0] 41)) = W36 at S36 HB36 hz36 HXa ⊢
            clear hWA36 hbc
            have S36 := Lib.hid S36
            have HS := FC.out _ HB36.out
            try simp only [Act.put, List.setIfInBounds_toArray, List.set_cons_zero, List.set_cons_succ]
            refine wpH.one (i := 25) (by kernel_rfl) ?_
            intro oi ho
            simp only [List.getElem?_toArray, List.getElem?_cons_succ, List.getElem?_cons_zero, Option.some.injEq] at ho
            subst ho
            intro K' hK
            have HK := Lib.hid hK
            clear hK
            go_simp
            obtain ⟨r0, r0f⟩ := S36.out.cell 0 0 rfl
            have hl6 := S36.out.lt 0
            try go_simp
            have SF : Hid (St w20 (W36.setCell ⟨b17, 0, none⟩ (.slice (some ⟨nb, no, none⟩) 1 (1 + np))) [.box b17 #[.slice (some ⟨nb, no, none⟩) 1 (1 + np)] 41]) := Lib.hid (S36.out.set1 0 rfl (.slice (some ⟨nb, no, none⟩) 1 (1 + np)) HBC.out trivial)
            have HNF := Lib.hid (normN_store HXa.out (.slice (some ⟨nb, no, none⟩) 1 (1 + np)))
            have HZF : Hid (b17 + 1 ≤ (W36.setCell ⟨b17, 0, none⟩ (.slice (some ⟨nb, no, none⟩) 1 (1 + np))).heap.size) := Lib.hid (by simp; omega)
            clear HS
            refine HK.out _ _ (fun h => absurd h (by decide)) ?_
            try simp only [Act.put, List.setIfInBounds_toArray, List.set_cons_zero, List.set_cons_succ]
            refine wpH.done (by kernel_rfl) ?_
            exact HQ.out _ _ _ _ _ _ _ _ _ HBC.out HZF.out SF.out HNF.out _ _ _ _ _ _ _ _ _ _ _ _ _ _ _ _ _ _ _ _ _ _ _ _
          · intro oi ho
            simp only [List.getElem?_toArray, List.getElem?_cons_succ, List.getElem?_cons_zero, Option.some.injEq] at ho
            subst ho
            intro K' hK
            have HK := Lib.hid hK
            clear hK
            go_simp
            obtain ⟨b17, hbc⟩ : ∃ b, b = v34.heap.size := ⟨_, rfl⟩
            have S35 := S34.out.box (b := b17) hbc.symm #[.slice none 0 0] 41
            have HB35 := Lib.hid (HB34.out.alloc HB34.out.size (.cells #[.slice none 0 0] 41))
            have HBC := Lib.hid (show w20.heap.size ≤ b17 by have h := HB34.out.size; omega)
            have HT2bba := Lib.hid (HT2bb.out.kept ((Below.refl _ v34).alloc (Nat.le_refl _) (.cells #[.slice none 0 0] 41)))
            have HT3ba := Lib.hid (HT3b.out.kept ((Below.refl _ v34).alloc (Nat.le_refl _) (.cells #[.slice none 0 0] 41)))
            have HFa := Lib.hid (HF.out.kept ((Below.refl _ v34).alloc (Nat.le_refl _) (.cells #[.slice none 0 0] 41)))
            have HGa := Lib.hid (Nat.lt_of_lt_of_le HG.out (((Below.refl _ v34).alloc (Nat.le_refl _) (.cells #[.slice none 0 0] 41)).size))
            have hz35 : b17 + 1 ≤ ((v34.alloc (.cells #[.slice none 0 0] 41))).heap.size := by simp [hbc]
            try rw [← hbc]
            refine HK.out _ _ (fun _ => FC.out _ HB35.out) ?_
            generalize hWA35 : (v34.alloc (.cells #[.slice none 0 0] 41)) = W35 at S35 HB35 hz35 HT2bba HT3ba HFa HGa ⊢
            clear hWA35 hbc
            have S35 := Lib.hid S35
            have HS := FC.out _ HB35.out
            try simp only [Act.put, List.setIfInBounds_toArray, List.set_cons_zero, List.set_cons_succ]
            refine wpH.one (i := 23) (by kernel_rfl) ?_
            intro oi ho
            simp only [List.getElem?_toArray, List.getElem?_cons_succ, List.getElem?_cons_zero, Option.some.injEq] at ho
            subst ho
            intro K' hK
            have HK := Lib.hid hK
            clear hK
            go_simp
            have hz17 := Lib.hid ((S35.out.lt 0 : b17 < W35.heap.size))
            go_at_call 50
            refine (normC ((T.withAt at_ X1 YR).sub Ls) (X2.sub Ls) _ _ _ _ _ _ HGa.out HFa.out HT2bba.out HT3ba.out HTM.out).mono ?_
            rintro e v36 ⟨nb, no, np, n1, m1, n2, m2, rfl, hn1, hn2, c1, c2, c3, c4, t1, t2, hbn⟩
            have S36 := Lib.hid (S35.out.step hbn)
            have HB36 := Lib.hid (Below.step HB35.out hbn)
            have HX : Hid (NormN w20.heap.size v36 nb no n1 n2 m1 m2 (npair ((T.withAt at_ X1 YR).sub Ls) (X2.sub Ls)) b17) := Lib.hid ⟨Nat.le_trans HB35.out.size hn1, (by have h := hz17.out; omega), c1, c2, c3, c4, t1.mono (fun c (h : W35.heap.size ≤ c) h2 => ⟨Nat.le_trans HB35.out.size h, by have h3 := hz17.out; omega⟩), t2.mono (fun c (h : W35.heap.size ≤ c) h2 => ⟨Nat.le_trans HB35.out.size h, by have h3 := hz17.out; omega⟩)⟩
            clear hn1 hn2 c1 c2 c3 c4 t1 t2 hbn
            dsimp only
            refine HK.out _ _ (fun _ => FC.out _ HB36.out) ?_
            have HS := FC.out _ HB36.out
            try simp only [Act.put, List.setIfInBounds_toArray, List.set_cons_zero, List.set_cons_succ]
            refine wpH.one (i := 25) (by kernel_rfl) ?_
            intro oi ho
            simp only [List.getElem?_toArray, List.getElem?_cons_succ, List.getElem?_cons_zero, Option.some.injEq] at ho
            subst ho
            intro K' hK
            have HK := Lib.hid hK
            clear hK
            go_simp
            obtain ⟨r0, r0f⟩ := S36.out.cell 0 0 rfl
            have hl6 := S36.out.lt 0
            try go_simp
            have SF : Hid (St w20 (v36.setCell ⟨b17, 0, none⟩ (.slice (some ⟨nb, no, none⟩) 1 (1 + np))) [.box b17 #[.slice (some ⟨nb, no, none⟩) 1 (1 + np)] 41]) := Lib.hid (S36.out.set1 0 rfl (.slice (some ⟨nb, no, none⟩) 1 (1 + np)) HBC.out trivial)
            have HNF := Lib.hid (normN_store HX.out (.slice (some ⟨nb, no, none⟩) 1 (1 + np)))
            have HZF : Hid (b17 + 1 ≤ (v36.setCell ⟨b17, 0, none⟩ (.slice (some ⟨nb, no, none⟩) 1 (1 + np))).heap.size) := Lib.hid (by simp; omega)
            clear HS
            refine HK.out _ _ (fun h => absurd h (by decide)) ?_
            try simp only [Act.put, List.setIfInBounds_toArray, List.set_cons_zero, List.set_cons_succ]
            refine wpH.done (by kernel_rfl) ?_
            exact HQ.out _ _ _ _ _ _ _ _ _ HBC.out HZF.out SF.out HNF.out _ _ _ _ _ _ _ _ _ _ _ _ _ _ _ _ _ _ _ _ _ _ _ _
        · intro oi ho
          simp only [List.getElem?_toArray, List.getElem?_cons_succ, List.getElem?_cons_zero, Option.some.injEq] at ho
          subst ho
          intro K' hK
          have HK := Lib.hid hK
          clear hK
          go_simp
          obtain ⟨b17, hbc⟩ : ∃ b, b = v33.heap.size := ⟨_, rfl⟩
          have S34 := S33.out.box (b := b17) hbc.symm #[.slice none 0 0] 41
          have HB34 := Lib.hid (HB33.out.alloc HB33.out.size (.cells #[.slice none 0 0] 41))
          have HBC := Lib.hid (show w20.heap.size ≤ b17 by have h := HB33.out.size; omega)
          have HT2ba := Lib.hid (HT2b.out.kept ((Below.refl _ v33).alloc (Nat.le_refl _) (.cells #[.slice none 0 0] 41)))
          have HT3a := Lib.hid (HT3.out.kept ((Below.refl _ v33).alloc (Nat.le_refl _) (.cells #[.slice none 0 0] 41)))
          have hz34 : b17 + 1 ≤ ((v33.alloc (.cells #[.slice none 0 0] 41))).heap.size := by simp [hbc]
          try rw [← hbc]
          refine HK.out _ _ (fun _ => FC.out _ HB34.out) ?_
          generalize hWA34 : (v33.alloc (.cells #[.slice none 0 0] 41)) = W34 at S34 HB34 hz34 HT2ba HT3a ⊢
          clear hWA34 hbc
          have S34 := Lib.hid S34
          have HS := FC.out _ HB34.out
          try simp only [Act.put, List.setIfInBounds_toArray, List.set_cons_zero, List.set_cons_succ]
          refine wpH.one (i := 21) (by kernel_rfl) ?_
          intro oi ho
          simp only [List.getElem?_toArray, List.getElem?_cons_succ, List.getElem?_cons_zero, Option.some.injEq] at ho
          subst ho
          intro K' hK
          have HK := Lib.hid hK
          clear hK
          go_simp
          obtain ⟨g, hg⟩ : ∃ b, b = W34.heap.size := ⟨_, rfl⟩
          have R35 := S34.out.box (b := g) hg.symm #[.bool false, .int .i64 ((T.withAt at_ X1 YR).sub Ls).head, .slice k8 ((T.withAt at_ X1 YR).sub Ls).kids.length (((T.withAt at_ X1 YR).sub Ls).kids.length + s8), .int .i64 (X2.sub Ls).head, .slice k9 (X2.sub Ls).kids.length ((X2.sub Ls).kids.length + s9)] 62
          have HB35 := Lib.hid (HB34.out.alloc HB34.out.size (.cells #[.bool false, .int .i64 ((T.withAt at_ X1 YR).sub Ls).head, .slice k8 ((T.withAt at_ X1 YR).sub Ls).kids.length (((T.withAt at_ X1 YR).sub Ls).kids.length + s8), .int .i64 (X2.sub Ls).head, .slice k9 (X2.sub Ls).kids.length ((X2.sub Ls).kids.length + s9)] 62))
          have HF : Hid (FactN (W34.alloc (.cells #[.bool false, .int .i64 ((T.withAt at_ X1 YR).sub Ls).head, .slice k8 ((T.withAt at_ X1 YR).sub Ls).kids.length (((T.withAt at_ X1 YR).sub Ls).kids.length + s8), .int .i64 (X2.sub Ls).head, .slice k9 (X2.sub Ls).kids.length ((X2.sub Ls).kids.length + s9)] 62)) g k8 k9 s8 s9 ((T.withAt at_ X1 YR).sub Ls) (X2.sub Ls)) := Lib.hid ⟨(R35.cell 1 0 rfl).1, (R35.cell 1 1 rfl).1, (R35.cell 1 2 rfl).1, (R35.cell 1 3 rfl).1, (R35.cell 1 4 rfl).1⟩
          have S35 := R35.pick [0]
          have HT2bab := Lib.hid (HT2ba.out.kept ((Below.refl _ W34).alloc (Nat.le_refl _) (.cells #[.bool false, .int .i64 ((T.withAt at_ X1 YR).sub Ls).head, .slice k8 ((T.withAt at_ X1 YR).sub Ls).kids.length (((T.withAt at_ X1 YR).sub Ls).kids.length + s8), .int .i64 (X2.sub Ls).head, .slice k9 (X2.sub Ls).kids.length ((X2.sub Ls).kids.length + s9)] 62)))
          have HT3ab := Lib.hid (HT3a.out.kept ((Below.refl _ W34).alloc (Nat.le_refl _) (.cells #[.bool false, .int .i64 ((T.withAt at_ X1 YR).sub Ls).head, .slice k8 ((T.withAt at_ X1 YR).sub Ls).kids.length (((T.withAt at_ X1 YR).sub Ls).kids.length + s8), .int .i64 (X2.sub Ls).head, .slice k9 (X2.sub Ls).kids.length ((X2.sub Ls).kids.length + s9)] 62)))
          have HG := Lib.hid (show g < (W34.alloc (.cells #[.bool false, .int .i64 ((T.withAt at_ X1 YR).sub Ls).head, .slice k8 ((T.withAt at_ X1 YR).sub Ls).kids.length (((T.withAt at_ X1 YR).sub Ls).kids.length + s8), .int .i64 (X2.sub Ls).head, .slice k9 (X2.sub Ls).kids.length ((X2.sub Ls).kids.length + s9)] 62)).heap.size by simp [hg])
          try rw [← hg]
          refine HK.out _ _ (fun _ => FC.out _ HB35.out) ?_
          clear R35
          generalize hWA35 : (W34.alloc (.cells #[.bool false, .int .i64 ((T.withAt at_ X1 YR).sub Ls).head, .slice k8 ((T.withAt at_ X1 YR).sub Ls).kids.length (((T.withAt at_ X1 YR).sub Ls).kids.length + s8), .int .i64 (X2.sub Ls).head, .slice k9 (X2.sub Ls).kids.length ((X2.sub Ls).kids.length + s9)] 62)) = v35 at S35 HB35 HG HF HT2bab HT3ab ⊢
          clear hWA35 hg
          have S35 := Lib.hid S35
          have HS := FC.out _ HB35.out
          try simp only [Act.put, List.setIfInBounds_toArray, List.set_cons_zero, List.set_cons_succ]
          refine wpH.take (i := 22) (by kernel_rfl) (by kernel_rfl) (by kernel_rfl) (by kernel_rfl) (by kernel_rfl) HS ?_
          intro oi ho
          simp only [List.getElem?_toArray, List.getElem?_cons_succ, List.getElem?_cons_zero, Option.some.injEq] at ho
          subst ho
          refine ⟨?_, Or.inl ⟨by rfl, ?_⟩, fun _ _ _ h => HPAN.out _ _ _ _ _ h, ?_⟩
          rotate_left 1
          · intro W hW
            try dsimp only at hW
            go_simp
            try with_reducible rfl
          simp only [Act.put, List.setIfInBounds_toArray, List.set_cons_zero, List.set_cons_succ]
          refine wpH.one (i := 23) (by kernel_rfl) ?_
          intro oi ho
          simp only [List.getElem?_toArray, List.getElem?_cons_succ, List.getElem?_cons_zero, Option.some.injEq] at ho
          subst ho
          intro K' hK
          have HK := Lib.hid hK
          clear hK
          go_simp
          have hz17 := Lib.hid ((S35.out.lt 0 : b17 < v35.heap.size))
          go_at_call 50
          refine (normC ((T.withAt at_ X1 YR).sub Ls) (X2.sub Ls) _ _ _ _ _ _ HG.out HF.out HT2bab.out HT3ab.out HTM.out).mono ?_
          rintro e v36 ⟨nb, no, np, n1, m1, n2, m2, rfl, hn1, hn2, c1, c2, c3, c4, t1, t2, hbn⟩
          have S36 := Lib.hid (S35.out.step hbn)
          have HB36 := Lib.hid (Below.step HB35.out hbn)
          have HX : Hid (NormN w20.heap.size v36 nb no n1 n2 m1 m2 (npair ((T.withAt at_ X1 YR).sub Ls) (X2.sub Ls)) b17) := Lib.hid ⟨Nat.le_trans HB35.out.size hn1, (by have h := hz17.out; omega), c1, c2, c3, c4, t1.mono (fun c (h : v35.heap.size ≤ c) h2 => ⟨Nat.le_trans HB35.out.size h, by have h3 := hz17.out; omega⟩), t2.mono (fun c (h : v35.heap.size ≤ c) h2 => ⟨Nat.le_trans HB35.out.size h, by have h3 := hz17.out; omega⟩)⟩
          clear hn1 hn2 c1 c2 c3 c4 t1 t2 hbn
          dsimp only
          refine HK.out _ _ (fun _ => FC.out _ HB36.out) ?_
          have HS := FC.out _ HB36.out
          try simp only [Act.put, List.setIfInBounds_toArray, List.set_cons_zero, List.set_cons_succ]
          refine wpH.one (i := 25) (by kernel_rfl) ?_
          intro oi ho
          simp only [List.getElem?_toArray, List.getElem?_cons_succ, List.getElem?_cons_zero, Option.some.injEq] at ho
          subst ho
          intro K' hK
          have HK := Lib.hid hK
          clear hK
          go_simp
          obtain ⟨r0, r0f⟩ := S36.out.cell 0 0 rfl
          have hl6 := S36.out.lt 0
          try go_simp
          have SF : Hid (St w20 (v36.setCell ⟨b17, 0, none⟩ (.slice (some ⟨nb, no, none⟩) 1 (1 + np))) [.box b17 #[.slice (some ⟨nb, no, none⟩) 1 (1 + np)] 41]) := Lib.hid (S36.out.set1 0 rfl (.slice (some ⟨nb, no, none⟩) 1 (1 + np)) HBC.out trivial)
          have HNF := Lib.hid (normN_store HX.out (.slice (some ⟨nb, no, none⟩) 1 (1 + np)))
          have HZF : Hid (b17 + 1 ≤ (v36.setCell ⟨b17, 0, none⟩ (.slice (some ⟨nb, no, none⟩) 1 (1 + np))).heap.size) := Lib.hid (by simp; omega)
          clear HS
          refine HK.out _ _ (fun h => absurd h (by decide)) ?_
          try simp only [Act.put, List.setIfInBounds_toArray, List.set_cons_zero, List.set_cons_succ]
          refine wpH.done (by kernel_rfl) ?_
          exact HQ.out _ _ _ _ _ _ _ _ _ HBC.out HZF.out SF.out HNF.out _ _ _ _ _ _ _ _ _ _ _ _ _ _ _ _ _ _ _ _ _ _ _ _
      · intro oi ho
        simp only [List.getElem?_toArray, List.getElem?_cons_succ, List.getElem?_cons_zero, Option.some.injEq] at ho
        subst ho
        intro K' hK
        have HK := Lib.hid hK
        clear hK
        go_simp
        obtain ⟨b17, hbc⟩ : ∃ b, b = v32.heap.size := ⟨_, rfl⟩
        have S33 := S32.out.box (b := b17) hbc.symm #[.slice none 0 0] 41
        have HB33 := Lib.hid (HB32.out.alloc HB32.out.size (.cells #[.slice none 0 0] 41))
        have HBC := Lib.hid (show w20.heap.size ≤ b17 by have h := HB32.out.size; omega)
        have HT2a := Lib.hid (HT2.out.kept ((Below.refl _ v32).alloc (Nat.le_refl _) (.cells #[.slice none 0 0] 41)))
        have hz33 : b17 + 1 ≤ ((v32.alloc (.cells #[.slice none 0 0] 41))).heap.size := by simp [hbc]
        try rw [← hbc]
        refine HK.out _ _ (fun _ => FC.out _ HB33.out) ?_
        generalize hWA33 : (v32.alloc (.cells #[.slice none 0 0] 41)) = W33 at S33 HB33 hz33 HT2a ⊢
        clear hWA33 hbc
        have S33 := Lib.hid S33
        have HS := FC.out _ HB33.out
        try simp only [Act.put, List.setIfInBounds_toArray, List.set_cons_zero, List.set_cons_succ]
        refine wpH.one (i := 19) (by kernel_rfl) ?_
        intro oi ho
        simp only [List.getElem?_toArray, List.getElem?_cons_succ, List.getElem?_cons_zero, Option.some.injEq] at ho
        subst ho
        intro K' hK
        have HK := Lib.hid hK
        clear hK
        go_simp
        go_at_call 60
        have HC := HW2.out _ HB33.out
        refine HC.mono ?_
        clear HC
        rintro e v34 ⟨k9, s9, rfl, ht, hbn⟩
        have S34 := Lib.hid (S33.out.step hbn)
        have HB34 := Lib.hid (Below.step HB33.out hbn)
        have HT2ab := Lib.hid (HT2a.out.kept hbn)
        have HT3 := Lib.hid ht
        clear ht hbn
        dsimp only
        refine HK.out _ _ (fun _ => FC.out _ HB34.out) ?_
        have HS := FC.out _ HB34.out
        try simp only [Act.put, List.setIfInBounds_toArray, List.set_cons_zero, List.set_cons_succ]
        refine wpH.take (i := 20) (by kernel_rfl) (by kernel_rfl) (by kernel_rfl) (by kernel_rfl) (by kernel_rfl) HS ?_
        intro oi ho
        simp only [List.getElem?_toArray, List.getElem?_cons_succ, List.getElem?_cons_zero, Option.some.injEq] at ho
        subst ho
        refine ⟨?_, Or.inl ⟨by rfl, ?_⟩, fun _ _ _ h => HPAN.out _ _ _ _ _ h, ?_⟩
        rotate_left 1
        · intro W hW
          try dsimp only at hW
          go_simp
          try with_reducible rfl
        simp only [Act.put, List.setIfInBounds_toArray, List.set_cons_zero, List.set_cons_succ]
        refine wpH.one (i := 21) (by kernel_rfl) ?_
        intro oi ho
        simp only [List.getElem?_toArray, List.getElem?_cons_succ, List.getElem?_cons_zero, Option.some.injEq] at ho
        subst ho
        intro K' hK
        have HK := Lib.hid hK
        clear hK
        go_simp
        obtain ⟨g, hg⟩ : ∃ b, b = v34.heap.size := ⟨_, rfl⟩
        have R35 := S34.out.box (b := g) hg.symm #[.bool false, .int .i64 ((T.withAt at_ X1 YR).sub Ls).head, .slice k8 ((T.withAt at_ X1 YR).sub Ls).kids.length (((T.withAt at_ X1 YR).sub Ls).kids.length + s8), .int .i64 (X2.sub Ls).head, .slice k9 (X2.sub Ls).kids.length ((X2.sub Ls).kids.length + s9)] 62
        have HB35 := Lib.hid (HB34.out.alloc HB34.out.size (.cells #[.bool false, .int .i64 ((T.withAt at_ X1 YR).sub Ls).head, .slice k8 ((T.withAt at_ X1 YR).sub Ls).kids.length (((T.withAt at_ X1 YR).sub Ls).kids.length + s8), .int .i64 (X2.sub Ls).head, .slice k9 (X2.sub Ls).kids.length ((X2.sub Ls).kids.length + s9)] 62))
        have HF : Hid (FactN (v34.alloc (.cells #[.bool false, .int .i64 ((T.withAt at_ X1 YR).sub Ls).head, .slice k8 ((T.withAt at_ X1 YR).sub Ls).kids.length (((T.withAt at_ X1 YR).sub Ls).kids.length + s8), .int .i64 (X2.sub Ls).head, .slice k9 (X2.sub Ls).kids.length ((X2.sub Ls).kids.length + s9)] 62)) g k8 k9 s8 s9 ((T.withAt at_ X1 YR).sub Ls) (X2.sub Ls)) := Lib.hid ⟨(R35.cell 1 0 rfl).1, (R35.cell 1 1 rfl).1, (R35.cell 1 2 rfl).1, (R35.cell 1 3 rfl).1, (R35.cell 1 4 rfl).1⟩
        have S35 := R35.pick [0]
        have HT2abb := Lib.hid (HT2ab.out.kept ((Below.refl _ v34).alloc (Nat.le_refl _) (.cells #[.bool false, .int .i64 ((T.withAt at_ X1 YR).sub Ls).head, .slice k8 ((T.withAt at_ X1 YR).sub Ls).kids.length (((T.withAt at_ X1 YR).sub Ls).kids.length + s8), .int .i64 (X2.sub Ls).head, .slice k9 (X2.sub Ls).kids.length ((X2.sub Ls).kids.length + s9)] 62)))
        have HT3b := Lib.hid (HT3.out.kept ((Below.refl _ v34).alloc (Nat.le_refl _) (.cells #[.bool false, .int .i64 ((T.withAt at_ X1 YR).sub Ls).head, .slice k8 ((T.withAt at_ X1 YR).sub Ls).kids.length (((T.withAt at_ X1 YR).sub Ls).kids.length + s8), .int .i64 (X2.sub Ls).head, .slice k9 (X2.sub Ls).kids.length ((X2.sub Ls).kids.length + s9)] 62)))
        have HG := Lib.hid (show g < (v34.alloc (.cells #[.bool false, .int .i64 ((T.withAt at_ X1 YR).sub Ls).head, .slice k8 ((T.withAt at_ X1 YR).sub Ls).kids.length (((T.withAt at_ X1 YR).sub Ls).kids.length + s8), .int .i64 (X2.sub Ls).head, .slice k9 (X2.sub Ls).kids.length ((X2.sub Ls).kids.length + s9)] 62)).heap.size by simp [hg])
        try rw [← hg]
        refine HK.out _ _ (fun _ => FC.out _ HB35.out) ?_
        clear R35
        generalize hWA35 : (v34.alloc (.cells #[.bool false, .int .i64 ((T.withAt at_ X1 YR).sub Ls).head, .slice k8 ((T.withAt at_ X1 YR).sub Ls).kids.length (((T.withAt at_ X1 YR).sub Ls).kids.length + s8), .int .i64 (X2.sub Ls).head, .slice k9 (X2.sub Ls).kids.length ((X2.sub Ls).kids.length + s9)] 62)) = v35 at S35 HB35 HG HF HT2abb HT3b ⊢
        clear hWA35 hg
        have S35 := Lib.hid S35
        have HS := FC.out _ HB35.out
        try simp only [Act.put, List.setIfInBounds_toArray, List.set_cons_zero, List.set_cons_succ]
        refine wpH.take (i := 22) (by kernel_rfl) (by kernel_rfl) (by kernel_rfl) (by kernel_rfl) (by kernel_rfl) HS ?_
        intro oi ho
        simp only [List.getElem?_toArray, List.getElem?_cons_succ, List.getElem?_cons_zero, Option.some.injEq] at ho
        subst ho
        refine ⟨?_, Or.inl ⟨by rfl, ?_⟩, fun _ _ _ h => HPAN.out _ _ _ _ _ h, ?_⟩
        rotate_left 1
        · intro W hW
          try dsimp only at hW
          go_simp
          try with_reducible rfl
        simp only [Act.put, List.setIfInBounds_toArray, List.set_cons_zero, List.set_cons_succ]
        refine wpH.one (i := 23) (by kernel_rfl) ?_
        intro oi ho
        simp only [List.getElem?_toArray, List.getElem?_cons_succ, List.getElem?_cons_zero, Option.some.injEq] at ho
        subst ho
        intro K' hK
        have HK := Lib.hid hK
        clear hK
        go_simp
        have hz17 := Lib.hid ((S35.out.lt 0 : b17 < v35.heap.size))
        go_at_call 50
        refine (normC ((T.withAt at_ X1 YR).sub Ls) (X2.sub Ls) _ _ _ _ _ _ HG.out HF.out HT2abb.out HT3b.out HTM.out).mono ?_
        rintro e v36 ⟨nb, no, np, n1, m1, n2, m2, rfl, hn1, hn2, c1, c2, c3, c4, t1, t2, hbn⟩
        have S36 := Lib.hid (S35.out.step hbn)
        have HB36 := Lib.hid (Below.step HB35.out hbn)
        have HX : Hid (NormN w20.heap.size v36 nb no n1 n2 m1 m2 (npair ((T.withAt at_ X1 YR).sub Ls) (X2.sub Ls)) b17) := Lib.hid ⟨Nat.le_trans HB35.out.size hn1, (by have h := hz17.out; omega), c1, c2, c3, c4, t1.mono (fun c (h : v35.heap.size ≤ c) h2 => ⟨Nat.le_trans HB35.out.size h, by have h3 := hz17.out; omega⟩), t2.mono (fun c (h : v35.heap.size ≤ c) h2 => ⟨Nat.le_trans HB35.out.size h, by have h3 := hz17.out; omega⟩)⟩
        clear hn1 hn2 c1 c2 c3 c4 t1 t2 hbn
        dsimp only
        refine HK.out _ _ (fun _ => FC.out _ HB36.out) ?_
        have HS := FC.out _ HB36.out
        try simp only [Act.put, List.setIfInBounds_toArray, List.set_cons_zero, List.set_cons_succ]
        refine wpH.one (i := 25) (by kernel_rfl) ?_
        intro oi ho
        simp only [List.getElem?_toArray, List.getElem?_cons_succ, List.getElem?_cons_zero, Option.some.injEq] at ho
        subst ho
        intro K' hK
        have HK := Lib.hid hK
        clear hK
        go_simp
        obtain ⟨r0, r0f⟩ := S36.out.cell 0 0 rfl
        have hl6 := S36.out.lt 0
        try go_simp
        have SF : Hid (St w20 (v36.setCell ⟨b17, 0, none⟩ (.slice (some ⟨nb, no, none⟩) 1 (1 + np))) [.box b17 #[.slice (some ⟨nb, no, none⟩) 1 (1 + np)] 41]) := Lib.hid (S36.out.set1 0 rfl (.slice (some ⟨nb, no, none⟩) 1 (1 + np)) HBC.out trivial)
        have HNF := Lib.hid (normN_store HX.out (.slice (some ⟨nb, no, none⟩) 1 (1 + np)))
        have HZF : Hid (b17 + 1 ≤ (v36.setCell ⟨b17, 0, none⟩ (.slice (some ⟨nb, no, none⟩) 1 (1 + np))).heap.size) := Lib.hid (by simp; omega)
        clear HS
        refine HK.out _ _ (fun h => absurd h (by decide)) ?_
        try simp only [Act.put, List.setIfInBounds_toArray, List.set_cons_zero, List.set_cons_succ]
        refine wpH.done (by kernel_rfl) ?_
        exact HQ.out _ _ _ _ _ _ _ _ _ HBC.out HZF.out SF.out HNF.out _ _ _ _ _ _ _ _ _ _ _ _ _ _ _ _ _ _ _ _ _ _ _ _
    · intro oi ho
      simp only [List.getElem?_toArray, List.getElem?_cons_succ, List.getElem?_cons_zero, Option.some.injEq] at ho
      subst ho
      intro K' hK
      have HK := Lib.hid hK
      clear hK
      go_simp
      obtain ⟨b17, hbc⟩ : ∃ b, b = v31.heap.size := ⟨_, rfl⟩
      have S32 := S31.out.box (b := b17) hbc.symm #[.slice none 0 0] 41
      have HB32 := Lib.hid (HB31.out.alloc HB31.out.size (.cells #[.slice none 0 0] 41))
      have HBC := Lib.hid (show w20.heap.size ≤ b17 by have h := HB31.out.size; omega)
      have HT1a := Lib.hid (HT1.out.kept ((Below.refl _ v31).alloc (Nat.le_refl _) (.cells #[.slice none 0 0] 41)))
      have hz32 : b17 + 1 ≤ ((v31.alloc (.cells #[.slice none 0 0] 41))).heap.size := by simp [hbc]
      try rw [← hbc]
      refine HK.out _ _ (fun _ => FC.out _ HB32.out) ?_
      generalize hWA32 : (v31.alloc (.cells #[.slice none 0 0] 41)) = W32 at S32 HB32 hz32 HT1a ⊢
      clear hWA32 hbc
      have S32 := Lib.hid S32
      have HS := FC.out _ HB32.out
      try simp only [Act.put, List.setIfInBounds_toArray, List.set_cons_zero, List.set_cons_succ]
      refine wpH.one (i := 12) (by kernel_rfl) ?_
      intro oi ho
      simp only [List.getElem?_toArray, List.getElem?_cons_succ, List.getElem?_cons_zero, Option.some.injEq] at ho
      subst ho
      intro K' hK
      have HK := Lib.hid hK
      clear hK
      go_simp
      go_at_call 60
      have HC := HW1.out _ _ _ HB32.out HT1a.out
      refine HC.mono ?_
      clear HC
      rintro e v33 ⟨k8, s8, rfl, ht, hbn⟩
      have S33 := Lib.hid (S32.out.step hbn)
      have HB33 := Lib.hid (Below.step HB32.out hbn)
      have HT2 := Lib.hid ht
      clear ht hbn
      dsimp only
      refine HK.out _ _ (fun _ => FC.out _ HB33.out) ?_
      have HS := FC.out _ HB33.out
      try simp only [Act.put, List.setIfInBounds_toArray, List.set_cons_zero, List.set_cons_succ]
      refine wpH.one (i := 19) (by kernel_rfl) ?_
      intro oi ho
      simp only [List.getElem?_toArray, List.getElem?_cons_succ, List.getElem?_cons_zero, Option.some.injEq] at ho
      subst ho
      intro K' hK
      have HK := Lib.hid hK
      clear hK
      go_simp
      go_at_call 60
      have HC := HW2.out _ HB33.out
      refine HC.mono ?_
      clear HC
      rintro e v34 ⟨k9, s9, rfl, ht, hbn⟩
      have S34 := Lib.hid (S33.out.step hbn)
      have HB34 := Lib.hid (Below.step HB33.out hbn)
      have HT2b := Lib.hid (HT2.out.kept hbn)
      have HT3 := Lib.hid ht
      clear ht hbn
      dsimp only
      refine HK.out _ _ (fun _ => FC.out _ HB34.out) ?_
      have HS := FC.out _ HB34.out
      try simp only [Act.put, List.setIfInBounds_toArray, List.set_cons_zero, List.set_cons_succ]
      refine wpH.take (i := 20) (by kernel_rfl) (by kernel_rfl) (by kernel_rfl) (by kernel_rfl) (by kernel_rfl) HS ?_
      intro oi ho
      simp only [List.getElem?_toArray, List.getElem?_cons_succ, List.getElem?_cons_zero, Option.some.injEq] at ho
      subst ho
      refine ⟨?_, Or.inl ⟨by rfl, ?_⟩, fun _ _ _ h => HPAN.out _ _ _ _ _ h, ?_⟩
      rotate_left 1
      · intro W hW
        try dsimp only at hW
        go_simp
        try with_reducible rfl
      simp only [Act.put, List.setIfInBounds_toArray, List.set_cons_zero, List.set_cons_succ]
      refine wpH.one (i := 21) (by kernel_rfl) ?_
      intro oi ho
      simp only [List.getElem?_toArray, List.getElem?_cons_succ, List.getElem?_cons_zero, Option.some.injEq] at ho
      subst ho
      intro K' hK
      have HK := Lib.hid hK
      clear hK
      go_simp
      obtain ⟨g, hg⟩ : ∃ b, b = v34.heap.size := ⟨_, rfl⟩
      have R35 := S34.out.box (b := g) hg.symm #[.bool false, .int .i64 ((T.withAt at_ X1 YR).sub Ls).head, .slice k8 ((T.withAt at_ X1 YR).sub Ls).kids.length (((T.withAt at_ X1 YR).sub Ls).kids.length + s8), .int .i64 (X2.sub Ls).head, .slice k9 (X2.sub Ls).kids.length ((X2.sub Ls).kids.length + s9)] 62
      have HB35 := Lib.hid (HB34.out.alloc HB34.out.size (.cells #[.bool false, .int .i64 ((T.withAt at_ X1 YR).sub Ls).head, .slice k8 ((T.withAt at_ X1 YR).sub Ls).kids.length (((T.withAt at_ X1 YR).sub Ls).kids.length + s8), .int .i64 (X2.sub Ls).head, .slice k9 (X2.sub Ls).kids.length ((X2.sub Ls).kids.length + s9)] 62))
      have HF : Hid (FactN (v34.alloc (.cells #[.bool false, .int .i64 ((T.withAt at_ X1 YR).sub Ls).head, .slice k8 ((T.withAt at_ X1 YR).sub Ls).kids.length (((T.withAt at_ X1 YR).sub Ls).kids.length + s8), .int .i64 (X2.sub Ls).head, .slice k9 (X2.sub Ls).kids.length ((X2.sub Ls).kids.length + s9)] 62)) g k8 k9 s8 s9 ((T.withAt at_ X1 YR).sub Ls) (X2.sub Ls)) := Lib.hid ⟨(R35.cell 1 0 rfl).1, (R35.cell 1 1 rfl).1, (R35.cell 1 2 rfl).1, (R35.cell 1 3 rfl).1, (R35.cell 1 4 rfl).1⟩
      have S35 := R35.pick [0]
      have HT2bb := Lib.hid (HT2b.out.kept ((Below.refl _ v34).alloc (Nat.le_refl _) (.cells #[.bool false, .int .i64 ((T.withAt at_ X1 YR).sub Ls).head, .slice k8 ((T.withAt at_ X1 YR).sub Ls).kids.length (((T.withAt at_ X1 YR).sub Ls).kids.length + s8), .int .i64 (X2.sub Ls).head, .slice k9 (X2.sub Ls).kids.length ((X2.sub Ls).kids.length + s9)] 62)))
      have HT3b := Lib.hid (HT3.out.kept ((Below.refl _ v34).alloc (Nat.le_refl _) (.cells #[.bool false, .int .i64 ((T.withAt at_ X1 YR).sub Ls).head, .slice k8 ((T.withAt at_ X1 YR).sub Ls).kids.length (((T.withAt at_ X1 YR).sub Ls).kids.length + s8), .int .i64 (X2.sub Ls).head, .slice k9 (X2.sub Ls).kids.length ((X2.sub Ls).kids.length + s9)] 62)))
      have HG := Lib.hid (show g < (v34.alloc (.cells #[.bool false, .int .i64 ((T.withAt at_ X1 YR).sub Ls).head, .slice k8 ((T.withAt at_ X1 YR).sub Ls).kids.length (((T.withAt at_ X1 YR).sub Ls).kids.length + s8), .int .i64 (X2.sub Ls).head, .slice k9 (X2.sub Ls).kids.length ((X2.sub Ls).kids.length + s9)] 62)).heap.size by simp [hg])
      try rw [← hg]
      refine HK.out _ _ (fun _ => FC.out _ HB35.out) ?_
      clear R35
      generalize hWA35 : (v34.alloc (.cells #[.bool false, .int .i64 ((T.withAt at_ X1 YR).sub Ls).head, .slice k8 ((T.withAt at_ X1 YR).sub Ls).kids.length (((T.withAt at_ X1 YR).sub Ls).kids.length + s8), .int .i64 (X2.sub Ls).head, .slice k9 (X2.sub Ls).kids.length ((X2.sub Ls).kids.length + s9)] 62)) = v35 at S35 HB35 HG HF HT2bb HT3b ⊢
      clear hWA35 hg
      have S35 := Lib.hid S35
      have HS := FC.out _ HB35.out
      try simp only [Act.put, List.setIfInBounds_toArray, List.set_cons_zero, List.set_cons_succ]
      refine wpH.take (i := 22) (by kernel_rfl) (by kernel_rfl) (by kernel_rfl) (by kernel_rfl) (by kernel_rfl) HS ?_
      intro oi ho
      simp only [List.getElem?_toArray, List.getElem?_cons_succ, List.getElem?_cons_zero, Option.some.injEq] at ho
      subst ho
      refine ⟨?_, Or.inl ⟨by rfl, ?_⟩, fun _ _ _ h => HPAN.out _ _ _ _ _ h, ?_⟩
      rotate_left 1
      · intro W hW
        try dsimp only at hW
        go_simp
        try with_reducible rfl
      simp only [Act.put, List.setIfInBounds_toArray, List.set_cons_zero, List.set_cons_succ]
      refine wpH.one (i := 23) (by kernel_rfl) ?_
      intro oi ho
      simp only [List.getElem?_toArray, List.getElem?_cons_succ, List.getElem?_cons_zero, Option.some.injEq] at ho
      subst ho
      intro K' hK
      have HK := Lib.hid hK
      clear hK
      go_simp
      have hz17 := Lib.hid ((S35.out.lt 0 : b17 < v35.heap.size))
      go_at_call 50
      refine (normC ((T.withAt at_ X1 YR).sub Ls) (X2.sub Ls) _ _ _ _ _ _ HG.out HF.out HT2bb.out HT3b.out HTM.out).mono ?_
      rintro e v36 ⟨nb, no, np, n1, m1, n2, m2, rfl, hn1, hn2, c1, c2, c3, c4, t1, t2, hbn⟩
      have S36 := Lib.hid (S35.out.step hbn)
      have HB36 := Lib.hid (Below.step HB35.out hbn)
      have HX : Hid (NormN w20.heap.size v36 nb no n1 n2 m1 m2 (npair ((T.withAt at_ X1 YR).sub Ls) (X2.sub Ls)) b17) := Lib.hid ⟨Nat.le_trans HB35.out.size hn1, (by have h := hz17.out; omega), c1, c2, c3, c4, t1.mono (fun c (h : v35.heap.size ≤ c) h2 => ⟨Nat.le_trans HB35.out.size h, by have h3 := hz17.out; omega⟩), t2.mono (fun c (h : v35.heap.size ≤ c) h2 => ⟨Nat.le_trans HB35.out.size h, by have h3 := hz17.out; omega⟩)⟩
      clear hn1 hn2 c1 c2 c3 c4 t1 t2 hbn
      dsimp only
      refine HK.out _ _ (fun _ => FC.out _ HB36.out) ?_
      have HS := FC.out _ HB36.out
      try simp only [Act.put, List.setIfInBounds_toArray, List.set_cons_zero, List.set_cons_succ]
      refine wpH.one (i := 25) (by kernel_rfl) ?_
      intro oi ho
      simp only [List.getElem?_toArray, List.getElem?_cons_succ, List.getElem?_cons_zero, Option.some.injEq] at ho
      subst ho
      intro K' hK
      have HK := Lib.hid hK
      clear hK
      go_simp
      obtain ⟨r0, r0f⟩ := S36.out.cell 0 0 rfl
      have hl6 := S36.out.lt 0
      try go_simp
      have SF : Hid (St w20 (v36.setCell ⟨b17, 0, none⟩ (.slice (some ⟨nb, no, none⟩) 1 (1 + np))) [.box b17 #[.slice (some ⟨nb, no, none⟩) 1 (1 + np)] 41]) := Lib.hid (S36.out.set1 0 rfl (.slice (some ⟨nb, no, none⟩) 1 (1 + np)) HBC.out trivial)
      have HNF := Lib.hid (normN_store HX.out (.slice (some ⟨nb, no, none⟩) 1 (1 + np)))
      have HZF : Hid (b17 + 1 ≤ (v36.setCell ⟨b17, 0, none⟩ (.slice (some ⟨nb, no, none⟩) 1 (1 + np))).heap.size) := Lib.hid (by simp; omega)
      clear HS
      refine HK.out _ _ (fun h => absurd h (by decide)) ?_
      try simp only [Act.put, List.setIfInBounds_toArray, List.set_cons_zero, List.set_cons_succ]
      refine wpH.done (by kernel_rfl) ?_
      exact HQ.out _ _ _ _ _ _ _ _ _ HBC.out HZF.out SF.out HNF.out _ _ _ _ _ _ _ _ _ _ _ _ _ _ _ _ _ _ _ _ _ _ _ _
  · intro oi ho
    simp only [List.getElem?_toArray, List.getElem?_cons_succ, List.getElem?_cons_zero, Option.some.injEq] at ho
    subst ho
    intro K' hK
    have HK := Lib.hid hK
    clear hK
    go_simp
    obtain ⟨b17, hbc⟩ : ∃ b, b = w20.heap.size := ⟨_, rfl⟩
    have S31 : St w20 ((w20.alloc (.cells #[.slice none 0 0] 41)).drew) _ := SD.out.box (b := b17) hbc.symm #[.slice none 0 0] 41
    have HB31 : Hid (Below w20.heap.size w20 ((w20.alloc (.cells #[.slice none 0 0] 41)).drew)) := Lib.hid (((Below.refl _ w20).alloc (Nat.le_refl _) _).drew)
    have HBC := Lib.hid (show w20.heap.size ≤ b17 by omega)
    have hz31 : b17 + 1 ≤ ((w20.alloc (.cells #[.slice none 0 0] 41)).drew).heap.size := by simp [hbc]
    try rw [← hbc]
    refine HK.out _ _ (fun _ => FC.out _ HB31.out) ?_
    generalize hWA31 : (w20.alloc (.cells #[.slice none 0 0] 41)).drew = W31 at S31 HB31 hz31  ⊢
    clear hWA31 hbc
    have S31 := Lib.hid S31
    have HS := FC.out _ HB31.out
    try simp only [Act.put, List.setIfInBounds_toArray, List.set_cons_zero, List.set_cons_succ]
    refine wpH.one (i := 10) (by kernel_rfl) ?_
    intro oi ho
    simp only [List.getElem?_toArray, List.getElem?_cons_succ, List.getElem?_cons_zero, Option.some.injEq] at ho
    subst ho
    intro K' hK
    have HK := Lib.hid hK
    clear hK
    go_simp
    go_at_call 104
    refine (HLD.out _ HB31.out).mono ?_
    rintro e v32 ⟨k7, s7, rfl, ht, hbn⟩
    have S32 := Lib.hid (S31.out.step hbn)
    have HB32 := Lib.hid (Below.step HB31.out hbn)
    have HT1 := Lib.hid ht
    clear ht hbn
    dsimp only
    refine HK.out _ _ (fun _ => FC.out _ HB32.out) ?_
    have HS := FC.out _ HB32.out
    try simp only [Act.put, List.setIfInBounds_toArray, List.set_cons_zero, List.set_cons_succ]
    refine wpH.one (i := 12) (by kernel_rfl) ?_
    intro oi ho
    simp only [List.getElem?_toArray, List.getElem?_cons_succ, List.getElem?_cons_zero, Option.some.injEq] at ho
    subst ho
    intro K' hK
    have HK := Lib.hid hK
    clear hK
    go_simp
    go_at_call 60
    have HC := HW1.out _ _ _ HB32.out HT1.out
    refine HC.mono ?_
    clear HC
    rintro e v33 ⟨k8, s8, rfl, ht, hbn⟩
    have S33 := Lib.hid (S32.out.step hbn)
    have HB33 := Lib.hid (Below.step HB32.out hbn)
    have HT2 := Lib.hid ht
    clear ht hbn
    dsimp only
    refine HK.out _ _ (fun _ => FC.out _ HB33.out) ?_
    have HS := FC.out _ HB33.out
    try simp only [Act.put, List.setIfInBounds_toArray, List.set_cons_zero, List.set_cons_succ]
    refine wpH.one (i := 19) (by kernel_rfl) ?_
    intro oi ho
    simp only [List.getElem?_toArray, List.getElem?_cons_succ, List.getElem?_cons_zero, Option.some.injEq] at ho
    subst ho
    intro K' hK
    have HK := Lib.hid hK
    clear hK
    go_simp
    go_at_call 60
    have HC := HW2.out _ HB33.out
    refine HC.mono ?_
    clear HC
    rintro e v34 ⟨k9, s9, rfl, ht, hbn⟩
    have S34 := Lib.hid (S33.out.step hbn)
    have HB34 := Lib.hid (Below.step HB33.out hbn)
    have HT2b := Lib.hid (HT2.out.kept hbn)
    have HT3 := Lib.hid ht
    clear ht hbn
    dsimp only
    refine HK.out _ _ (fun _ => FC.out _ HB34.out) ?_
    have HS := FC.out _ HB34.out
    try simp only [Act.put, List.setIfInBounds_toArray, List.set_cons_zero, List.set_cons_succ]
    refine wpH.take (i := 20) (by kernel_rfl) (by kernel_rfl) (by kernel_rfl) (by kernel_rfl) (by kernel_rfl) HS ?_
    intro oi ho
    simp only [List.getElem?_toArray, List.getElem?_cons_succ, List.getElem?_cons_zero, Option.some.injEq] at ho
    subst ho
    refine ⟨?_, Or.inl ⟨by rfl, ?_⟩, fun _ _ _ h => HPAN.out _ _ _ _ _ h, ?_⟩
    rotate_left 1
    · intro W hW
      try dsimp only at hW
      go_simp
      try with_reducible rfl
    simp only [Act.put, List.setIfInBounds_toArray, List.set_cons_zero, List.set_cons_succ]
    refine wpH.one (i := 21) (by kernel_rfl) ?_
    intro oi ho
    simp only [List.getElem?_toArray, List.getElem?_cons_succ, List.getElem?_cons_zero, Option.some.injEq] at ho
    subst ho
    intro K' hK
    have HK := Lib.hid hK
    clear hK
    go_simp
    obtain ⟨g, hg⟩ : ∃ b, b = v34.heap.size := ⟨_, rfl⟩
    have R35 := S34.out.box (b := g) hg.symm #[.bool false, .int .i64 ((T.withAt at_ X1 YR).sub Ls).head, .slice k8 ((T.withAt at_ X1 YR).sub Ls).kids.length (((T.withAt at_ X1 YR).sub Ls).kids.length + s8), .int .i64 (X2.sub Ls).head, .slice k9 (X2.sub Ls).kids.length ((X2.sub Ls).kids.length + s9)] 62
    have HB35 := Lib.hid (HB34.out.alloc HB34.out.size (.cells #[.bool false, .int .i64 ((T.withAt at_ X1 YR).sub Ls).head, .slice k8 ((T.withAt at_ X1 YR).sub Ls).kids.length (((T.withAt at_ X1 YR).sub Ls).kids.length + s8), .int .i64 (X2.sub Ls).head, .slice k9 (X2.sub Ls).kids.length ((X2.sub Ls).kids.length + s9)] 62))
    have HF : Hid (FactN (v34.alloc (.cells #[.bool false, .int .i64 ((T.withAt at_ X1 YR).sub Ls).head, .slice k8 ((T.withAt at_ X1 YR).sub Ls).kids.length (((T.withAt at_ X1 YR).sub Ls).kids.length + s8), .int .i64 (X2.sub Ls).head, .slice k9 (X2.sub Ls).kids.length ((X2.sub Ls).kids.length + s9)] 62)) g k8 k9 s8 s9 ((T.withAt at_ X1 YR).sub Ls) (X2.sub Ls)) := Lib.hid ⟨(R35.cell 1 0 rfl).1, (R35.cell 1 1 rfl).1, (R35.cell 1 2 rfl).1, (R35.cell 1 3 rfl).1, (R35.cell 1 4 rfl).1⟩
    have S35 := R35.pick [0]
    have HT2bb := Lib.hid (HT2b.out.kept ((Below.refl _ v34).alloc (Nat.le_refl _) (.cells #[.bool false, .int .i64 ((T.withAt at_ X1 YR).sub Ls).head, .slice k8 ((T.withAt at_ X1 YR).sub Ls).kids.length (((T.withAt at_ X1 YR).sub Ls).kids.length + s8), .int .i64 (X2.sub Ls).head, .slice k9 (X2.sub Ls).kids.length ((X2.sub Ls).kids.length + s9)] 62)))
    have HT3b := Lib.hid (HT3.out.kept ((Below.refl _ v34).alloc (Nat.le_refl _) (.cells #[.bool false, .int .i64 ((T.withAt at_ X1 YR).sub Ls).head, .slice k8 ((T.withAt at_ X1 YR).sub Ls).kids.length (((T.withAt at_ X1 YR).sub Ls).kids.length + s8), .int .i64 (X2.sub Ls).head, .slice k9 (X2.sub Ls).kids.length ((X2.sub Ls).kids.length + s9)] 62)))
    have HG := Lib.hid (show g < (v34.alloc (.cells #[.bool false, .int .i64 ((T.withAt at_ X1 YR).sub Ls).head, .slice k8 ((T.withAt at_ X1 YR).sub Ls).kids.length (((T.withAt at_ X1 YR).sub Ls).kids.length + s8), .int .i64 (X2.sub Ls).head, .slice k9 (X2.sub Ls).kids.length ((X2.sub Ls).kids.length + s9)] 62)).heap.size by simp [hg])
    try rw [← hg]
    refine HK.out _ _ (fun _ => FC.out _ HB35.out) ?_
    clear R35
    generalize hWA35 : (v34.alloc (.cells #[.bool false, .int .i64 ((T.withAt at_ X1 YR).sub Ls).head, .slice k8 ((T.withAt at_ X1 YR).sub Ls).kids.length (((T.withAt at_ X1 YR).sub Ls).kids.length + s8), .int .i64 (X2.sub Ls).head, .slice k9 (X2.sub Ls).kids.length ((X2.sub Ls).kids.length + s9)] 62)) = v35 at S35 HB35 HG HF HT2bb HT3b ⊢
    clear hWA35 hg
    have S35 := Lib.hid S35
    have HS := FC.out _ HB35.out
    try simp only [Act.put, List.setIfInBounds_toArray, List.set_cons_zero, List.set_cons_succ]
    refine wpH.take (i := 22) (by kernel_rfl) (by kernel_rfl) (by kernel_rfl) (by kernel_rfl) (by kernel_rfl) HS ?_
    intro oi ho
    simp only [List.getElem?_toArray, List.getElem?_cons_succ, List.getElem?_cons_zero, Option.some.injEq] at ho
    subst ho
    refine ⟨?_, Or.inl ⟨by rfl, ?_⟩, fun _ _ _ h => HPAN.out _ _ _ _ _ h, ?_⟩
    rotate_left 1
    · intro W hW
      try dsimp only at hW
      go_simp
      try with_reducible rfl
    simp only [Act.put, List.setIfInBounds_toArray, List.set_cons_zero, List.set_cons_succ]
    refine wpH.one (i := 23) (by kernel_rfl) ?_
    intro oi ho
    simp only [List.getElem?_toArray, List.getElem?_cons_succ, List.getElem?_cons_zero, Option.some.injEq] at ho
    subst ho
    intro K' hK
    have HK := Lib.hid hK
    clear hK
    go_simp
    have hz17 := Lib.hid ((S35.out.lt 0 : b17 < v35.heap.size))
    go_at_call 50
    refine (normC ((T.withAt at_ X1 YR).sub Ls) (X2.sub Ls) _ _ _ _ _ _ HG.out HF.out HT2bb.out HT3b.out HTM.out).mono ?_
    rintro e v36 ⟨nb, no, np, n1, m1, n2, m2, rfl, hn1, hn2, c1, c2, c3, c4, t1, t2, hbn⟩
    have S36 := Lib.hid (S35.out.step hbn)
    have HB36 := Lib.hid (Below.step HB35.out hbn)
    have HX : Hid (NormN w20.heap.size v36 nb no n1 n2 m1 m2 (npair ((T.withAt at_ X1 YR).sub Ls) (X2.sub Ls)) b17) := Lib.hid ⟨Nat.le_trans HB35.out.size hn1, (by have h := hz17.out; omega), c1, c2, c3, c4, t1.mono (fun c (h : v35.heap.size ≤ c) h2 => ⟨Nat.le_trans HB35.out.size h, by have h3 := hz17.out; omega⟩), t2.mono (fun c (h : v35.heap.size ≤ c) h2 => ⟨Nat.le_trans HB35.out.size h, by have h3 := hz17.out; omega⟩)⟩
    clear hn1 hn2 c1 c2 c3 c4 t1 t2 hbn
    dsimp only
    refine HK.out _ _ (fun _ => FC.out _ HB36.out) ?_
    have HS := FC.out _ HB36.out
    try simp only [Act.put, List.setIfInBounds_toArray, List.set_cons_zero, List.set_cons_succ]
    refine wpH.one (i := 25) (by kernel_rfl) ?_
    intro oi ho
    simp only [List.getElem?_toArray, List.getElem?_cons_succ, List.getElem?_cons_zero, Option.some.injEq] at ho
    subst ho
    intro K' hK
    have HK := Lib.hid hK
    clear hK
    go_simp
    obtain ⟨r0, r0f⟩ := S36.out.cell 0 0 rfl
    have hl6 := S36.out.lt 0
    try go_simp
    have SF : Hid (St w20 (v36.setCell ⟨b17, 0, none⟩ (.slice (some ⟨nb, no, none⟩) 1 (1 + np))) [.box b17 #[.slice (some ⟨nb, no, none⟩) 1 (1 + np)] 41]) := Lib.hid (S36.out.set1 0 rfl (.slice (some ⟨nb, no, none⟩) 1 (1 + np)) HBC.out trivial)
    have HNF := Lib.hid (normN_store HX.out (.slice (some ⟨nb, no, none⟩) 1 (1 + np)))
    have HZF : Hid (b17 + 1 ≤ (v36.setCell ⟨b17, 0, none⟩ (.slice (some ⟨nb, no, none⟩) 1 (1 + np))).heap.size) := Lib.hid (by simp; omega)
    clear HS
    refine HK.out _ _ (fun h => absurd h (by decide)) ?_
    try simp only [Act.put, List.setIfInBounds_toArray, List.set_cons_zero, List.set_cons_succ]
    refine wpH.done (by kernel_rfl) ?_
    exact HQ.out _ _ _ _ _ _ _ _ _ HBC.out HZF.out SF.out HNF.out _ _ _ _ _ _ _ _ _ _ _ _ _ _ _ _ _ _ _ _ _ _ _ _
end Go.Proofs.Ytlhnfdjidjgfgaa
