/-
  Walks: small trees and rules built by the law TurnAdds.
-/
import Derived.Test.YteekoclfpehnpaaProg
import Derived.Test.YteekoclfpehnpaaR2
import Derived.Test.YteekoclfpehnpaaT25
import Derived.Test.YteekoclfpehnpaaXd
import Derived.Test.YteekoclfpehnpaaG1
namespace Go.Proofs.Yteekoclfpehnpaa
open Go.RowKit Go.Shelf
set_option linter.unusedVariables false
set_option maxHeartbeats 400000

theorem in28 (n lo hi : Int) (w : World) : Calls Try.prog 28 #[.int .i64 n, .int .i64 lo, .int .i64 hi] w fun e w' => e = .returned (.bool (decide (lo ≤ n ∧ n ≤ hi))) ∧ w' = w := by
  go_enter Try.func28, Try.ntmps28
  go_wp2
  all_goals (go_ret; exact ⟨ret_bool (by simp; try omega), rfl⟩)
theorem row1 {p : Nat → Prop} {w : World} {b : Nat} {a : T} {ka : Option Addr} {sa : Nat} (h : w.heap[b]? = some (.cells #[.int .i64 a.head, .slice ka a.kids.length (a.kids.length + sa)] 44 (0, 0))) (hp : p b) (ha : TreeP p w (.agg #[.int .i64 a.head, .slice ka a.kids.length (a.kids.length + sa)]) a) : RowP p w (some ⟨b, 0, none⟩) [a] := fun i hi => by
  match i, hi with
  | 0, _ => exact ⟨b, 0, ka, sa, rfl, hp, by simp [World.cell?, h, gK], by simp [World.cell?, h, gK], ha⟩
theorem row2 {p : Nat → Prop} {w : World} {b : Nat} {a c : T} {ka kc : Option Addr} {sa sc : Nat} (h : w.heap[b]? = some (.cells #[.int .i64 a.head, .slice ka a.kids.length (a.kids.length + sa), .int .i64 c.head, .slice kc c.kids.length (c.kids.length + sc)] 44 (0, 0))) (hp : p b) (ha : TreeP p w (.agg #[.int .i64 a.head, .slice ka a.kids.length (a.kids.length + sa)]) a) (hc : TreeP p w (.agg #[.int .i64 c.head, .slice kc c.kids.length (c.kids.length + sc)]) c) : RowP p w (some ⟨b, 0, none⟩) [a, c] := fun i hi => by
  match i, hi with
  | 0, _ => exact ⟨b, 0, ka, sa, rfl, hp, by simp [World.cell?, h, gK], by simp [World.cell?, h, gK], ha⟩
  | 1, _ => exact ⟨b, 0, kc, sc, rfl, hp, by simp [World.cell?, h, gK], by simp [World.cell?, h, gK], hc⟩
def OneP (p0 : Nat → Prop) (R : T) (w : World) (e : Ending) (w' : World) : Prop := ∃ u, e = .returned u ∧ TreeP (fun b => p0 b ∨ w.heap.size ≤ b) w' u R ∧ Below w.heap.size w w'

set_option maxRecDepth 100000 in
set_option maxHeartbeats 4000000 in
theorem func189 (p0 : Nat → Prop) (a : T) (v : Value) (w : World) (hp : ∀ b, p0 b → b < w.heap.size) (ha : TreeP p0 w v a) : Calls Try.prog 89 #[v] w (OneP p0 (.node 2 [a]) w) := by
  obtain ⟨ka, sa, rfl⟩ := ha.at.form
  have HA := Lib.hid ha; have HP := Lib.hid hp
  have S := (((St.start w).box rfl #[.int .i64 a.head, .slice ka a.kids.length (a.kids.length + sa)] 44).box (b := w.heap.size + 1) (by simp) #[.int .i64 2, .slice (some ⟨w.heap.size + 2, 0, none⟩) 1 1] 44).box (b := w.heap.size + 2) (by simp) #[.int .i64 a.head, .slice ka a.kids.length (a.kids.length + sa)] 44
  have S0 := ((St.start w).box rfl #[.int .i64 a.head, .slice ka a.kids.length (a.kids.length + sa)] 44).box (b := w.heap.size + 1) (by simp) #[.int .i64 0, .slice none 0 0] 44
  obtain ⟨⟨x0, _⟩, x1, _⟩ := S0.two 0
  clear ha hp S0
  go_enter Try.func89, Try.ntmps89
  go_wp2_with fail
  refine ret_box2 (.int .i64 2) (.slice (some ⟨w.heap.size + 2, 0, none⟩) 1 1) (w.heap.size + 1) 44 (S.block 1) (fun w' q0 q1 => by simp [results, Try.results89, go_sem, q0, q1]) rfl ?_
  refine ⟨_, rfl, ?_, S.bel⟩
  exact TreeP.close (h := 2) (sp := 0) (row1 (S.block 2) (.inr (by omega)) ((HA.out.kept S.bel).mono (fun b h _ => .inl h))) (by unfold maxLen; simp)

set_option maxRecDepth 100000 in
set_option maxHeartbeats 4000000 in
theorem two39 (p0 : Nat → Prop) (h : Int) (a c : T) (v u : Value) (w : World) (hp : ∀ b, p0 b → b < w.heap.size) (ha : TreeP p0 w v a) (hc : TreeP p0 w u c) : Calls Try.prog 39 #[.int .i64 h, v, u] w (OneP p0 (.node h [a, c]) w) := by
  obtain ⟨ka, sa, rfl⟩ := ha.at.form
  obtain ⟨kc, sc, rfl⟩ := hc.at.form
  have HA := Lib.hid ha; have HP := Lib.hid hp; have HC := Lib.hid hc
  have S := ((((St.start w).box rfl #[.int .i64 a.head, .slice ka a.kids.length (a.kids.length + sa)] 44).box (b := w.heap.size + 1) (by simp) #[.int .i64 c.head, .slice kc c.kids.length (c.kids.length + sc)] 44).box (b := w.heap.size + 2) (by simp) #[.int .i64 h, .slice (some ⟨w.heap.size + 3, 0, none⟩) 2 2] 44).box (b := w.heap.size + 3) (by simp) #[.int .i64 a.head, .slice ka a.kids.length (a.kids.length + sa), .int .i64 c.head, .slice kc c.kids.length (c.kids.length + sc)] 44
  have S0 := (((St.start w).box rfl #[.int .i64 a.head, .slice ka a.kids.length (a.kids.length + sa)] 44).box (b := w.heap.size + 1) (by simp) #[.int .i64 c.head, .slice kc c.kids.length (c.kids.length + sc)] 44).box (b := w.heap.size + 2) (by simp) #[.int .i64 0, .slice none 0 0] 44
  obtain ⟨⟨x0, _⟩, x1, _⟩ := S0.two 0
  obtain ⟨⟨y0, _⟩, y1, _⟩ := S0.two 1
  clear ha hp hc S0
  go_enter Try.func39, Try.ntmps39
  go_wp2_with fail
  refine ret_box2 (.int .i64 h) (.slice (some ⟨w.heap.size + 3, 0, none⟩) 2 2) (w.heap.size + 2) 44 (S.block 2) (fun w' q0 q1 => by simp [results, Try.results39, go_sem, q0, q1]) rfl ?_
  refine ⟨_, rfl, ?_, S.bel⟩
  exact TreeP.close (h := h) (sp := 0) (row2 (S.block 3) (.inr (by omega)) ((HA.out.kept S.bel).mono (fun b h _ => .inl h)) ((HC.out.kept S.bel).mono (fun b h _ => .inl h))) (by unfold maxLen; simp)

def numT : Nat → T
  | 0 => .node 1 []
  | n + 1 => .node 2 [numT n]

set_option maxRecDepth 100000 in
set_option maxHeartbeats 4000000 in
theorem number40 (n : Nat) (hn : n ≤ 1000) (w : World) : Calls Try.prog 40 #[.int .i64 n] w (OneP (fun _ => False) (numT n) w) := by
  obtain ⟨bx, hbx⟩ : ∃ b, b = w.heap.size := ⟨_, rfl⟩
  have S1 := (St.start w).box hbx.symm #[.int .i64 0, .slice none 0 0] 44
  have hsz : (w.alloc (.cells #[.int .i64 0, .slice none 0 0] 44)).heap.size = bx + 1 := by simp [hbx]
  go_enter Try.func40, Try.ntmps40
  go_wp2_with fail
  rw [← hbx]
  refine S1.gen (z := bx + 1) (by omega) ?_
  intro w1 z1 S
  have HBX := Lib.hid hbx
  clear S1 hbx hsz
  refine (S.quiet (leaf25 1 w1)).mono ?_
  rintro e w2 ⟨rfl, z2, S⟩
  obtain ⟨b3, hb3⟩ : ∃ b, b = w2.heap.size := ⟨_, rfl⟩
  have S := (S.box hb3.symm #[.int .i64 1, .slice none 0 0] 44).add (.treeP (fun b => b ≠ bx ∧ b ≠ b3 ∧ bx ≤ b) (.agg #[.int .i64 1, .slice none 0 0]) (numT 0)) (TreeP.leaf _ _ 1)
  have z3 : b3 + 1 ≤ (w2.alloc (.cells #[.int .i64 1, .slice none 0 0] 44)).heap.size := by simp [hb3]
  have HB3 := Lib.hid (show bx + 1 ≤ b3 by omega)
  go_wp2_with fail
  rw [← hb3]
  refine S.genC (z := b3 + 1) z3 ?_
  intro w3 z4 S
  clear z3 hb3
  go_loopw [4] (fun i wr => ∃ (k : Nat) (ck : Option Addr) (cs : Nat), k ≤ n ∧ i = .int .i64 k ∧ b3 + 1 ≤ wr.heap.size ∧ St w wr [.box bx #[.int .i64 0, .slice none 0 0] 44, .box b3 #[.int .i64 (numT k).head, .slice ck (numT k).kids.length ((numT k).kids.length + cs)] 44, .treeP (fun b => b ≠ bx ∧ b ≠ b3 ∧ bx ≤ b) (.agg #[.int .i64 (numT k).head, .slice ck (numT k).kids.length ((numT k).kids.length + cs)]) (numT k)]) (fun i _ => n - (intOf i).toNat)
  case atStart => exact ⟨0, none, 0, by omega, rfl, z4, S⟩
  case round =>
    clear S
    obtain ⟨k, ck, cs, hk, rfl, z5, S⟩ := hrel
    by_cases hlt : k < n
    · have hlti : (k : Int) < (n : Int) := by omega
      obtain ⟨⟨x0, _⟩, x1, _⟩ := S.two 1
      go_wp2_with fail
      refine (func189 (fun b => b ≠ bx ∧ b ≠ b3 ∧ bx ≤ b ∧ b < wr.heap.size) (numT k) _ wr (fun b h => h.2.2.2) ((St.treeP S 2 (p := fun b => b ≠ bx ∧ b ≠ b3 ∧ bx ≤ b) rfl).mono (fun b h hl => ⟨h.1, h.2.1, h.2.2, hl⟩))).mono ?_
      rintro e w4 ⟨u, rfl, hu, hb⟩
      obtain ⟨uk, us, rfl⟩ := hu.at.form
      have hx := HB3.out
      have S2 := (S.step hb).add (.treeP (fun b => b ≠ bx ∧ b ≠ b3 ∧ bx ≤ b) _ (numT (k + 1))) (hu.mono (fun b h _ => by
        rcases h with h | h
        · exact ⟨h.1, h.2.1, h.2.2.1⟩
        · exact ⟨by omega, by omega, by omega⟩))
      obtain ⟨⟨y0, y1⟩, y2, y3⟩ := S2.two 1
      have hl1 := S2.lt 1
      have S3 := (S2.set2 1 rfl (.int .i64 2) (.slice uk 1 (1 + us)) (by have := HBX.out; omega) (by simp only [fsnoc, offs, offAll, Fct.box, Fct.treeP, and_true]; exact ⟨by omega, fun h => h.2.1 rfl, fun h => h.2.1 rfl⟩)).pick [0, 1, 3]
      have z6 := hb.size
      have SB := Lib.hid S3
      clear S S2 S3 hu hb x0 x1
      go_wp2_with fail
      go_roundw
      case rel => exact ⟨k + 1, uk, us, by omega, by go_num, by simp; omega, SB.out⟩
      case measure => simp [intOf] <;> omega
    · obtain rfl : k = n := by omega
      obtain ⟨⟨x0, _⟩, x1, _⟩ := S.two 1
      obtain ⟨⟨y0, y1⟩, y2, y3⟩ := S.two 0
      have hl1 := S.lt 0
      have SB := Lib.hid S
      clear S
      go_wp2_with fail
      refine ret_box2 (.int .i64 (numT k).head) (.slice ck (numT k).kids.length ((numT k).kids.length + cs)) bx 44 (box2_set (SB.out.block 0) _ _) (fun w' q0 q1 => by simp [results, Try.results40, go_sem, q0, q1]) rfl ?_
      have hx := HBX.out
      refine ⟨_, rfl, ?_, (SB.out.bel.setCell (p := ⟨bx, 0, none⟩) (by show w.heap.size ≤ bx; omega) _).setCell (p := ⟨bx, 1, none⟩) (by show w.heap.size ≤ bx; omega) _⟩
      have h8 := St.treeP SB.out 2 (p := fun b => b ≠ bx ∧ b ≠ b3 ∧ bx ≤ b) rfl
      exact ((h8.setCell (a := ⟨bx, 0, none⟩) (fun h => h.1 rfl) _).setCell (a := ⟨bx, 1, none⟩) (fun h => h.1 rfl) _).mono (fun b h _ => .inr (by omega))
theorem St.oned {P : Program} {n : Nat} {a : Array Value} {w0 w : World} {l : List Fct} (S : St w0 w l) {p0 : Nat → Prop} {B : Nat} (hB : B ≤ w.heap.size) (hp : ∀ b, p0 b → B ≤ b) {R : T} (h : Calls P n a w (OneP p0 R w)) :
    Calls P n a w fun e w' => ∃ k sp, e = .returned (.agg #[.int .i64 R.head, .slice k R.kids.length (R.kids.length + sp)]) ∧ w.heap.size ≤ w'.heap.size ∧ St w0 w' (fsnoc l (.treeP (fun b => B ≤ b) (.agg #[.int .i64 R.head, .slice k R.kids.length (R.kids.length + sp)]) R)) :=
  h.mono fun e w' ⟨u, h1, h2, h3⟩ => by
    obtain ⟨k, sp, rfl⟩ := h2.at.form
    exact ⟨k, sp, h1, h3.size, (S.step h3).add (.treeP _ _ _) (h2.mono fun b hb _ => by rcases hb with hb | hb; exact hp b hb; omega)⟩
theorem rules2 {p : Nat → Prop} {w : World} {b : Nat} {A B C D : T} {ka kb kc kd : Option Addr} {sa sb sc sd : Nat} (h : w.heap[b]? = some (.cells #[.int .i64 A.head, .slice ka A.kids.length (A.kids.length + sa), .int .i64 B.head, .slice kb B.kids.length (B.kids.length + sb), .int .i64 C.head, .slice kc C.kids.length (C.kids.length + sc), .int .i64 D.head, .slice kd D.kids.length (D.kids.length + sd)] 86 (0, 0))) (hp : p b)
    (h1 : TreeP p w (.agg #[.int .i64 A.head, .slice ka A.kids.length (A.kids.length + sa)]) A) (h2 : TreeP p w (.agg #[.int .i64 B.head, .slice kb B.kids.length (B.kids.length + sb)]) B) (h3 : TreeP p w (.agg #[.int .i64 C.head, .slice kc C.kids.length (C.kids.length + sc)]) C) (h4 : TreeP p w (.agg #[.int .i64 D.head, .slice kd D.kids.length (D.kids.length + sd)]) D) : ruleE.Row p w (some ⟨b, 0, none⟩) [(A, B), (C, D)] := fun i x hx => by
  match i, hx with
  | 0, hx =>
    simp at hx; subst hx
    refine ⟨b, 0, [.int .i64 A.head, .slice ka A.kids.length (A.kids.length + sa), .int .i64 B.head, .slice kb B.kids.length (B.kids.length + sb)], rfl, hp, fun j u hu => ?_, ka, sa, kb, sb, rfl, h1, h2⟩
    match j, hu with
    | 0, hu => simp at hu; subst hu; simp [World.cell?, h]
    | 1, hu => simp at hu; subst hu; simp [World.cell?, h]
    | 2, hu => simp at hu; subst hu; simp [World.cell?, h]
    | 3, hu => simp at hu; subst hu; simp [World.cell?, h]
  | 1, hx =>
    simp at hx; subst hx
    refine ⟨b, 0, [.int .i64 C.head, .slice kc C.kids.length (C.kids.length + sc), .int .i64 D.head, .slice kd D.kids.length (D.kids.length + sd)], rfl, hp, fun j u hu => ?_, kc, sc, kd, sd, rfl, h3, h4⟩
    match j, hu with
    | 0, hu => simp at hu; subst hu; simp [World.cell?, h, ruleE]
    | 1, hu => simp at hu; subst hu; simp [World.cell?, h, ruleE]
    | 2, hu => simp at hu; subst hu; simp [World.cell?, h, ruleE]
    | 3, hu => simp at hu; subst hu; simp [World.cell?, h, ruleE]
def addN : T := .node 2 [.node (-1) []]
def addA1 : T := .node 3 [.node (-1) [], .node 1 []]
def addA2 : T := .node 3 [.node (-2) [], addN]
def addA3 : T := .node 3 [.node (-2) [], .node (-1) []]
def addA4 : T := .node 2 [addA3]
def addRs : List Ru := [(addA1, .node (-1) []), (addA2, addA4)]

set_option maxRecDepth 100000 in
set_option maxHeartbeats 4000000 in
theorem adding38 (w : World) : Calls Try.prog 38 #[] w fun e w' => ∃ ro, e = .returned (.slice ro addRs.length addRs.length) ∧ ruleE.Row (fun b => w.heap.size ≤ b) w' ro addRs ∧ Below w.heap.size w w' := by
  have HN := func189 (fun _ => False) (.node (-1) []) (.agg #[.int .i64 (-1), .slice none 0 0])
  obtain ⟨N, hN⟩ : ∃ N, N = addN := ⟨_, rfl⟩
  have HN : ∀ W, Calls Try.prog 89 #[.agg #[.int .i64 (-1), .slice none 0 0]] W (OneP (fun _ => False) N W) := fun W => by rw [hN]; exact HN W (fun b h => h.elim) (TreeP.leaf _ _ _)
  obtain ⟨A1, hA1⟩ : ∃ N, N = addA1 := ⟨_, rfl⟩
  have H1 : ∀ W, Calls Try.prog 39 #[.int .i64 3, .agg #[.int .i64 (-1), .slice none 0 0], .agg #[.int .i64 1, .slice none 0 0]] W (OneP (fun _ => False) A1 W) := fun W => by rw [hA1]; exact two39 _ 3 (.node (-1) []) (.node 1 []) _ _ W (fun b h => h.elim) (TreeP.leaf _ _ _) (TreeP.leaf _ _ _)
  obtain ⟨A2, hA2⟩ : ∃ N, N = addA2 := ⟨_, rfl⟩
  have H2 : ∀ W p0 v, (∀ b, p0 b → b < W.heap.size) → TreeP p0 W v N → Calls Try.prog 39 #[.int .i64 3, .agg #[.int .i64 (-2), .slice none 0 0], v] W (OneP p0 A2 W) := fun W p0 v hp ht => by rw [hA2]; unfold addA2; rw [← hN]; exact two39 _ 3 (.node (-2) []) N _ _ W hp (TreeP.leaf _ _ _) ht
  obtain ⟨A3, hA3⟩ : ∃ N, N = addA3 := ⟨_, rfl⟩
  have H3 : ∀ W, Calls Try.prog 39 #[.int .i64 3, .agg #[.int .i64 (-2), .slice none 0 0], .agg #[.int .i64 (-1), .slice none 0 0]] W (OneP (fun _ => False) A3 W) := fun W => by rw [hA3]; exact two39 _ 3 (.node (-2) []) (.node (-1) []) _ _ W (fun b h => h.elim) (TreeP.leaf _ _ _) (TreeP.leaf _ _ _)
  obtain ⟨A4, hA4⟩ : ∃ N, N = addA4 := ⟨_, rfl⟩
  have H4 : ∀ W p0 v, (∀ b, p0 b → b < W.heap.size) → TreeP p0 W v A3 → Calls Try.prog 89 #[v] W (OneP p0 A4 W) := fun W p0 v hp ht => by rw [hA4]; unfold addA4; rw [← hA3]; exact func189 _ A3 _ W hp ht
  have HRS := Lib.hid (show addRs = [(A1, .node (-1) []), (A2, A4)] by rw [hA1, hA2, hA4]; rfl)
  clear hN hA1 hA2 hA3 hA4
  go_enter Try.func38, Try.ntmps38
  go_wp2_with fail
  have S := St.start w
  refine (S.quiet (leaf25 (-1) w)).mono ?_
  rintro e w1 ⟨rfl, z1, S⟩
  go_wp2_with fail
  refine (S.oned (B := w.heap.size) z1 (fun b h => h.elim) (HN w1)).mono ?_
  rintro e w2 ⟨nk, ns, rfl, z2, S⟩
  obtain ⟨b1, hb1⟩ : ∃ b, b = w2.heap.size := ⟨_, rfl⟩
  have S : St w (w2.alloc (.cells #[.int .i64 N.head, .slice nk N.kids.length (N.kids.length + ns)] 44)) [.box b1 #[.int .i64 N.head, .slice nk N.kids.length (N.kids.length + ns)] 44, .treeP (fun b => w.heap.size ≤ b) (.agg #[.int .i64 N.head, .slice nk N.kids.length (N.kids.length + ns)]) N] := (S.box hb1.symm #[.int .i64 N.head, .slice nk N.kids.length (N.kids.length + ns)] 44).pick [1, 0]
  go_wp2_with fail
  rw [← hb1]
  refine S.genC (z := b1 + 1) (by simp [hb1]) ?_
  intro w3 z3 S
  clear hb1
  have SD := S.drew
  clear S
  refine wpG_region 14 (fun W => W.cell? ⟨b1, 0, none⟩ = some (.int .i64 N.head) ∧ W.cell? ⟨b1, 1, none⟩ = some (.slice nk N.kids.length (N.kids.length + ns))) (by kernel_rfl) ?_
  have HS := And.intro (SD.two 0).1.1 (SD.two 0).2.1
  refine wpG.take (i := 6) (by kernel_rfl) (by kernel_rfl) (by kernel_rfl) (by kernel_rfl) (by kernel_rfl) HS ?_
  intro oi ho
  simp only [List.getElem?_toArray, List.getElem?_cons_succ, List.getElem?_cons_zero, Option.some.injEq] at ho
  subst ho
  refine ⟨?_, Or.inl ⟨by rfl, ?_⟩, fun _ _ _ h => h, ?_⟩
  rotate_left 1
  · intro W hW
    try dsimp only at hW
    go_simp
    try with_reducible rfl
  simp only [Act.put, List.setIfInBounds_toArray, List.set_cons_zero, List.set_cons_succ]
  refine wpG.one (i := 0) (by kernel_rfl) ?_
  intro oi ho
  simp only [List.getElem?_toArray, List.getElem?_cons_zero, Option.some.injEq] at ho
  subst ho
  intro K hK
  have HK := Lib.hid hK
  have HSH := Lib.hid HS
  clear hK HS
  go_simp
  go_at_call 49
  refine (SD.quiet (leaf25 (-1) _)).mono ?_
  rintro e w4 ⟨rfl, zw4, S4⟩
  dsimp only
  refine HK.out _ _ (fun _ => And.intro (S4.two 0).1.1 (S4.two 0).2.1) ?_
  have HS := And.intro (S4.two 0).1.1 (S4.two 0).2.1
  try simp only [Act.put, List.setIfInBounds_toArray, List.set_cons_zero, List.set_cons_succ]
  refine wpG.one (i := 1) (by kernel_rfl) ?_
  intro oi ho
  simp only [List.getElem?_toArray, List.getElem?_cons_succ, List.getElem?_cons_zero, Option.some.injEq] at ho
  subst ho
  intro K hK
  have HK := Lib.hid hK
  have HSH := Lib.hid HS
  clear hK HS
  go_simp
  go_at_call 49
  refine (S4.quiet (leaf25 (1) _)).mono ?_
  rintro e w5 ⟨rfl, zw5, S5⟩
  dsimp only
  refine HK.out _ _ (fun _ => And.intro (S5.two 0).1.1 (S5.two 0).2.1) ?_
  have HS := And.intro (S5.two 0).1.1 (S5.two 0).2.1
  try simp only [Act.put, List.setIfInBounds_toArray, List.set_cons_zero, List.set_cons_succ]
  refine wpG.one (i := 2) (by kernel_rfl) ?_
  intro oi ho
  simp only [List.getElem?_toArray, List.getElem?_cons_succ, List.getElem?_cons_zero, Option.some.injEq] at ho
  subst ho
  intro K hK
  have HK := Lib.hid hK
  have HSH := Lib.hid HS
  clear hK HS
  go_simp
  go_at_call 39
  refine (S5.oned (B := w.heap.size) S5.bel.size (fun b h => h.elim) (H1 w5)).mono ?_
  rintro e w6 ⟨k6, s6, rfl, zw6, S6⟩
  dsimp only
  refine HK.out _ _ (fun _ => And.intro (S6.two 0).1.1 (S6.two 0).2.1) ?_
  have HS := And.intro (S6.two 0).1.1 (S6.two 0).2.1
  try simp only [Act.put, List.setIfInBounds_toArray, List.set_cons_zero, List.set_cons_succ]
  refine wpG.one (i := 3) (by kernel_rfl) ?_
  intro oi ho
  simp only [List.getElem?_toArray, List.getElem?_cons_succ, List.getElem?_cons_zero, Option.some.injEq] at ho
  subst ho
  intro K hK
  have HK := Lib.hid hK
  have HSH := Lib.hid HS
  clear hK HS
  go_simp
  go_at_call 49
  refine (S6.quiet (leaf25 (-1) _)).mono ?_
  rintro e w7 ⟨rfl, zw7, S7⟩
  dsimp only
  refine HK.out _ _ (fun _ => And.intro (S7.two 0).1.1 (S7.two 0).2.1) ?_
  have HS := And.intro (S7.two 0).1.1 (S7.two 0).2.1
  try simp only [Act.put, List.setIfInBounds_toArray, List.set_cons_zero, List.set_cons_succ]
  refine wpG.take (i := 4) (by kernel_rfl) (by kernel_rfl) (by kernel_rfl) (by kernel_rfl) (by kernel_rfl) HS ?_
  intro oi ho
  simp only [List.getElem?_toArray, List.getElem?_cons_succ, List.getElem?_cons_zero, Option.some.injEq] at ho
  subst ho
  refine ⟨?_, Or.inl ⟨by rfl, ?_⟩, fun _ _ _ h => h, ?_⟩
  rotate_left 1
  · intro W hW
    try dsimp only at hW
    go_simp
    try with_reducible rfl
  simp only [Act.put, List.setIfInBounds_toArray, List.set_cons_zero, List.set_cons_succ]
  refine wpG.one (i := 5) (by kernel_rfl) ?_
  intro oi ho
  simp only [List.getElem?_toArray, List.getElem?_cons_succ, List.getElem?_cons_zero, Option.some.injEq] at ho
  subst ho
  intro K hK
  have HK := Lib.hid hK
  have HSH := Lib.hid HS
  clear hK HS
  go_simp
  go_at_call 49
  refine (S7.quiet (leaf25 (-2) _)).mono ?_
  rintro e w8 ⟨rfl, zw8, S8⟩
  dsimp only
  refine HK.out _ _ (fun _ => And.intro (S8.two 0).1.1 (S8.two 0).2.1) ?_
  have HS := And.intro (S8.two 0).1.1 (S8.two 0).2.1
  try simp only [Act.put, List.setIfInBounds_toArray, List.set_cons_zero, List.set_cons_succ]
  refine wpG.one (i := 7) (by kernel_rfl) ?_
  intro oi ho
  simp only [List.getElem?_toArray, List.getElem?_cons_succ, List.getElem?_cons_zero, Option.some.injEq] at ho
  subst ho
  intro K hK
  have HK := Lib.hid hK
  have HSH := Lib.hid HS
  clear hK HS
  go_simp
  go_at_call 39
  refine (S8.oned (B := w.heap.size) S8.bel.size (fun b h => h.1) (H2 w8 (fun b => w.heap.size ≤ b ∧ b < w8.heap.size) _ (fun b h => h.2) ((St.treeP S8 1 (p := fun b => w.heap.size ≤ b) rfl).mono (fun b h hl => ⟨h, hl⟩)))).mono ?_
  rintro e w9 ⟨k9, s9, rfl, zw9, S9⟩
  dsimp only
  refine HK.out _ _ (fun _ => And.intro (S9.two 0).1.1 (S9.two 0).2.1) ?_
  have HS := And.intro (S9.two 0).1.1 (S9.two 0).2.1
  try simp only [Act.put, List.setIfInBounds_toArray, List.set_cons_zero, List.set_cons_succ]
  refine wpG.one (i := 8) (by kernel_rfl) ?_
  intro oi ho
  simp only [List.getElem?_toArray, List.getElem?_cons_succ, List.getElem?_cons_zero, Option.some.injEq] at ho
  subst ho
  intro K hK
  have HK := Lib.hid hK
  have HSH := Lib.hid HS
  clear hK HS
  go_simp
  go_at_call 49
  refine (S9.quiet (leaf25 (-2) _)).mono ?_
  rintro e w10 ⟨rfl, zw10, S10⟩
  dsimp only
  refine HK.out _ _ (fun _ => And.intro (S10.two 0).1.1 (S10.two 0).2.1) ?_
  have HS := And.intro (S10.two 0).1.1 (S10.two 0).2.1
  try simp only [Act.put, List.setIfInBounds_toArray, List.set_cons_zero, List.set_cons_succ]
  refine wpG.one (i := 9) (by kernel_rfl) ?_
  intro oi ho
  simp only [List.getElem?_toArray, List.getElem?_cons_succ, List.getElem?_cons_zero, Option.some.injEq] at ho
  subst ho
  intro K hK
  have HK := Lib.hid hK
  have HSH := Lib.hid HS
  clear hK HS
  go_simp
  go_at_call 49
  refine (S10.quiet (leaf25 (-1) _)).mono ?_
  rintro e w11 ⟨rfl, zw11, S11⟩
  dsimp only
  refine HK.out _ _ (fun _ => And.intro (S11.two 0).1.1 (S11.two 0).2.1) ?_
  have HS := And.intro (S11.two 0).1.1 (S11.two 0).2.1
  try simp only [Act.put, List.setIfInBounds_toArray, List.set_cons_zero, List.set_cons_succ]
  refine wpG.one (i := 10) (by kernel_rfl) ?_
  intro oi ho
  simp only [List.getElem?_toArray, List.getElem?_cons_succ, List.getElem?_cons_zero, Option.some.injEq] at ho
  subst ho
  intro K hK
  have HK := Lib.hid hK
  have HSH := Lib.hid HS
  clear hK HS
  go_simp
  go_at_call 39
  refine (S11.oned (B := w.heap.size) S11.bel.size (fun b h => h.elim) (H3 w11)).mono ?_
  rintro e w12 ⟨k12, s12, rfl, zw12, S12⟩
  dsimp only
  refine HK.out _ _ (fun _ => And.intro (S12.two 0).1.1 (S12.two 0).2.1) ?_
  have HS := And.intro (S12.two 0).1.1 (S12.two 0).2.1
  try simp only [Act.put, List.setIfInBounds_toArray, List.set_cons_zero, List.set_cons_succ]
  refine wpG.one (i := 11) (by kernel_rfl) ?_
  intro oi ho
  simp only [List.getElem?_toArray, List.getElem?_cons_succ, List.getElem?_cons_zero, Option.some.injEq] at ho
  subst ho
  intro K hK
  have HK := Lib.hid hK
  have HSH := Lib.hid HS
  clear hK HS
  go_simp
  go_at_call 89
  refine (S12.oned (B := w.heap.size) S12.bel.size (fun b h => h.1) (H4 w12 (fun b => w.heap.size ≤ b ∧ b < w12.heap.size) _ (fun b h => h.2) ((St.treeP S12 4 (p := fun b => w.heap.size ≤ b) rfl).mono (fun b h hl => ⟨h, hl⟩)))).mono ?_
  rintro e w13 ⟨k13, s13, rfl, zw13, S13⟩
  dsimp only
  refine HK.out _ _ (fun _ => And.intro (S13.two 0).1.1 (S13.two 0).2.1) ?_
  have HS := And.intro (S13.two 0).1.1 (S13.two 0).2.1
  try simp only [Act.put, List.setIfInBounds_toArray, List.set_cons_zero, List.set_cons_succ]
  refine wpG.take (i := 12) (by kernel_rfl) (by kernel_rfl) (by kernel_rfl) (by kernel_rfl) (by kernel_rfl) HS ?_
  intro oi ho
  simp only [List.getElem?_toArray, List.getElem?_cons_succ, List.getElem?_cons_zero, Option.some.injEq] at ho
  subst ho
  refine ⟨?_, Or.inl ⟨by rfl, ?_⟩, fun _ _ _ h => h, ?_⟩
  rotate_left 1
  · intro W hW
    try dsimp only at hW
    go_simp
    try with_reducible rfl
  simp only [Act.put, List.setIfInBounds_toArray, List.set_cons_zero, List.set_cons_succ]
  refine wpG.one (i := 13) (by kernel_rfl) ?_
  intro oi ho
  simp only [List.getElem?_toArray, List.getElem?_cons_succ, List.getElem?_cons_zero, Option.some.injEq] at ho
  subst ho
  intro K hK
  have HK := Lib.hid hK
  have HSH := Lib.hid HS
  clear hK HS
  have SA := S13.box (b := w13.heap.size) rfl #[.int .i64 A1.head, .slice k6 A1.kids.length (A1.kids.length + s6), .int .i64 (-1), .slice none 0 0, .int .i64 A2.head, .slice k9 A2.kids.length (A2.kids.length + s9), .int .i64 A4.head, .slice k13 A4.kids.length (A4.kids.length + s13)] 86
  go_simp
  refine HK.out _ _ (fun _ => And.intro (SA.two 0).1.1 (SA.two 0).2.1) ?_
  have HS := And.intro (SA.two 0).1.1 (SA.two 0).2.1
  try simp only [Act.put, List.setIfInBounds_toArray, List.set_cons_zero, List.set_cons_succ]
  refine wpG.one (i := 14) (by kernel_rfl) ?_
  intro oi ho
  simp only [List.getElem?_toArray, List.getElem?_cons_succ, List.getElem?_cons_zero, Option.some.injEq] at ho
  subst ho
  intro K hK
  have HK := Lib.hid hK
  have HSH := Lib.hid HS
  clear hK HS
  go_simp
  refine HK.out _ _ (fun h => absurd rfl h) ?_
  try simp only [Act.put, List.setIfInBounds_toArray, List.set_cons_zero, List.set_cons_succ]
  refine wpG.done (by kernel_rfl) ?_
  have SE := Lib.hid SA
  have hz13 := S13.bel.size
  clear SA S13 S12 S11 S10 S9 S8 S7 S6 S5 S4 SD
  go_wp2_with fail
  go_ret
  have hb := SE.out.block 6
  refine ⟨_, by rw [HRS.out]; rfl, ?_, SE.out.bel⟩
  rw [HRS.out]
  exact rules2 hb hz13 (St.treeP SE.out 2 (p := fun b => w.heap.size ≤ b) rfl) (kb := none) (sb := 0) (B := .node (-1) []) (TreeP.leaf _ _ _) (St.treeP SE.out 3 (p := fun b => w.heap.size ≤ b) rfl) (St.treeP SE.out 5 (p := fun b => w.heap.size ≤ b) rfl)
end Go.Proofs.Yteekoclfpehnpaa
