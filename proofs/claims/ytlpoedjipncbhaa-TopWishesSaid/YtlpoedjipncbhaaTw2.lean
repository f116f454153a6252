/-
  Walks: soft.tried: the best assignment under which all clauses hold.
-/
import Derived.Test.YtlpoedjipncbhaaProg
import Derived.Test.YtlpoedjipncbhaaTw1
import Derived.Test.YtlpoedjipncbhaaGf
import Derived.Test.YtlpoedjipncbhaaEk2
import Derived.RegionTactic
import Derived.BigQuiet
import Derived.IntWalk
namespace Go.Proofs.Ytlpoedjipncbhaa
open Go.RowKit Go.Shelf
set_option linter.unusedVariables false
set_option linter.unusedSimpArgs false
set_option maxHeartbeats 400000
attribute [local go_sem] Oper.semAt_some

/-- the weights of the first n wishes that are denied -/
def sumW (ls : List (List Int)) (ws : List Int) (a : Nat → Bool) : Nat → Int
  | 0 => 0
  | n + 1 => sumW ls ws a n + (if satT a (ls.getD n []) then 0 else gI ws n)
def okWs (ws : List Int) : Prop := ∀ x ∈ ws, 0 ≤ x ∧ x ≤ 1000
theorem gI_ok {ws : List Int} (h : okWs ws) (i : Nat) : 0 ≤ gI ws i ∧ gI ws i ≤ 1000 := by
  by_cases hi : i < ws.length
  · rw [gI_get hi]; exact h _ (List.getElem_mem hi)
  · unfold gI; rw [List.getD_eq_getElem?_getD, List.getElem?_eq_none (by omega)]; simp
theorem sumW_ok {ls : List (List Int)} {ws : List Int} (h : okWs ws) (a : Nat → Bool) : ∀ n, 0 ≤ sumW ls ws a n ∧ sumW ls ws a n ≤ 1000 * n
  | 0 => by simp [sumW]
  | n + 1 => by
    have h1 := sumW_ok (ls := ls) h a n
    have h2 := gI_ok h n
    rw [sumW]
    split <;> constructor <;> push_cast <;> omega
def bstep (f : Nat → Int) (s : Option (Int × AX)) (x : AX) : Option (Int × AX) :=
  match s with
  | none => some (f x.k, x)
  | some (b, y) => if f x.k < b then some (f x.k, x) else some (b, y)
def bestX (f : Nat → Int) (l : List AX) : Option (Int × AX) := l.foldl (bstep f) none
theorem bestX_snoc (f : Nat → Int) (l : List AX) (x : AX) : bestX f (l ++ [x]) = bstep f (bestX f l) x := by simp [bestX]
def stOf (s : Option (Int × AX)) : Int := if s.isSome then 1 else 2
def bsOf (s : Option (Int × AX)) : Int := match s with | some (b, _) => b | none => 0
def atOf (s : Option (Int × AX)) : Value := match s with | some (_, y) => .slice (some ⟨y.g, 0, none⟩) 5 5 | none => .slice none 0 0
def atF (s : Option (Int × AX)) : Fct := match s with | some (_, y) => .box y.g (cellsF Value.bool (asgL y.k)) 4 | none => .none
theorem atF_good (B : Nat) (s : Option (Int × AX)) : GoodF B (atF s) := by
  cases s with
  | none => exact fun _ _ _ _ _ _ => trivial
  | some p => exact GoodF.box _ _ _ _
def soF (ls : List (List Int)) (ws : List Int) (k : Nat) : Int := sumW ls ws (fB (asgL k)) ls.length
set_option maxRecDepth 100000 in
set_option maxHeartbeats 8000000 in
theorem tried16 (cs ls : List (List Int)) (ws : List Int) (p q r : Nat → Prop) (ko lo wo : Option Addr) (kc lc wc_ : Nat) (w : World)
    (hG : ∀ c ∈ cs, GoodC 5 c) (hcl : cs.length ≤ 16) (hL : ∀ c ∈ ls, GoodC 5 c) (hll : ls.length ≤ 10) (hws : okWs ws) (hwl : ws.length = ls.length)
    (hc : intsE.Row q w ko cs) (hl : intsE.Row p w lo ls) (hw : intE.Row r w wo ws) (hq : ∀ b, q b → b < w.heap.size) (hp : ∀ b, p b → b < w.heap.size) (hr : ∀ b, r b → b < w.heap.size) :
    Calls Try.prog 16 #[.agg #[.int .i64 5, .slice ko cs.length kc], .slice lo ls.length lc, .slice wo ws.length wc_] w fun e w' =>
      ∃ xs : List AX, xs.map (·.k) = satsN cs 32 ∧ e = .returned (.tuple #[.int .i64 (stOf (bestX (soF ls ws) xs)), .int .i64 (bsOf (bestX (soF ls ws) xs)), atOf (bestX (soF ls ws) xs)]) ∧ (atF (bestX (soF ls ws) xs)).holds w' ∧ (∀ b y, bestX (soF ls ws) xs = some (b, y) → w.heap.size ≤ y.g) ∧ Below w.heap.size w w' := by
  have HG := Lib.hid hG; have HLL := Lib.hid hL; have HWS := Lib.hid hws; have HC := Lib.hid hc; have HL := Lib.hid hl; have HW := Lib.hid hw; have HQ := Lib.hid hq; have HP := Lib.hid hp; have HRR := Lib.hid hr
  obtain ⟨n, hn⟩ : ∃ n, n = cs.length := ⟨_, rfl⟩
  obtain ⟨m, hm⟩ : ∃ m, m = ls.length := ⟨_, rfl⟩
  rw [hwl, ← hm, ← hn]
  rw [← hn] at hcl; rw [← hm] at hll
  have HN := Lib.hid hn; have HM := Lib.hid hm; have HWL := Lib.hid hwl
  obtain ⟨bx, hbx⟩ : ∃ b, b = w.heap.size := ⟨_, rfl⟩
  have S1 := ((((((St.start w).box hbx.symm #[.int .i64 5, .slice ko n kc] 25).box (b := bx + 1) (by simp [hbx]) #[.slice lo m lc] 23).box (b := bx + 2) (by simp [hbx]) #[.slice wo m wc_] 22).box (b := bx + 3) (by simp [hbx]) #[.int .i64 2] 3).box (b := bx + 4) (by simp [hbx]) #[.int .i64 0] 3).box (b := bx + 5) (by simp [hbx]) #[.slice none 0 0] 30
  have HBX := Lib.hid hbx
  clear hG hL hws hc hl hw hq hp hr hn hm hwl
  refine (callsIn_wide (n := 4)).1 ?_
  refine callsIn_of_wp_marks Try.func16 rfl trivial ?_ rfl
  simp only [Try.ntmps16, List.size_toArray, List.length_cons, List.length_nil, Nat.reduceAdd, Nat.reduceSub, Array.replicate_succ, Array.replicate_zero, List.push_toArray, List.append_toArray, List.nil_append, List.cons_append]
  gi_wp2_with fail
  rw [← hbx]
  simp only [Nat.add_assoc, Nat.reduceAdd]
  refine ⟨trivial, ?_⟩
  refine (callsIn_wide.2 (each22 ko n kc 5 _)).mono ?_
  rintro e w2 ⟨rfl, hw2⟩
  have hz1 : ((((((w.alloc (.cells #[.int .i64 5, .slice ko n kc] 25)).alloc (.cells #[.slice lo m lc] 23)).alloc (.cells #[.slice wo m wc_] 22)).alloc (.cells #[.int .i64 2] 3)).alloc (.cells #[.int .i64 0] 3)).alloc (.cells #[.slice none 0 0] 30)).heap.size = bx + 6 := by simp [hbx]
  rw [hz1]
  have S2 := (S1.box hz1 #[.slice ko n kc] 23).box (b := bx + 7) (by simp [hbx]) #[.int .i64 5] 3
  have hz2 : (((((((((w.alloc (.cells #[.int .i64 5, .slice ko n kc] 25)).alloc (.cells #[.slice lo m lc] 23)).alloc (.cells #[.slice wo m wc_] 22)).alloc (.cells #[.int .i64 2] 3)).alloc (.cells #[.int .i64 0] 3)).alloc (.cells #[.slice none 0 0] 30)).alloc (.cells #[.slice ko n kc] 23)).alloc (.cells #[.int .i64 5] 3))).heap.size = bx + 8 := by simp [hbx]
  rw [← hw2] at S2 hz2
  clear hw2 S1 hz1 hbx
  gi_wp2_with fail
  simp only [Nat.add_assoc, Nat.reduceAdd]
  have S : St w w2 [.box bx #[.int .i64 5, .slice ko n kc] 25, .box (bx + 1) #[.slice lo m lc] 23, .box (bx + 2) #[.slice wo m wc_] 22, .box (bx + 3) #[.int .i64 2] 3, .box (bx + 4) #[.int .i64 0] 3, .box (bx + 5) #[.slice none 0 0] 30, .box (bx + 6) #[.slice ko n kc] 23, .box (bx + 7) #[.int .i64 5] 3, .none] := (S2.add .none trivial).pick [0, 1, 2, 3, 4, 5, 6, 7, 8]
  clear S2
  have HS := Lib.hid S
  have HZ := Lib.hid hz2
  have hGF : ∀ (pre : List AX) (ov : Value), ∀ f ∈ (([.box bx #[.int .i64 5, .slice ko n kc] 25, .box (bx + 1) #[.slice lo m lc] 23, .box (bx + 2) #[.slice wo m wc_] 22, .box (bx + 3) #[.int .i64 (stOf (bestX (soF ls ws) pre))] 3, .box (bx + 4) #[.int .i64 (bsOf (bestX (soF ls ws) pre))] 3, .box (bx + 5) #[atOf (bestX (soF ls ws) pre)] 30, .box (bx + 6) #[.slice ko n kc] 23, .box (bx + 7) #[.int .i64 5] 3, atF (bestX (soF ls ws) pre)]) : List Fct), GoodF w2.heap.size f := fun pre ov f hf => by
    simp only [List.mem_cons, List.not_mem_nil, or_false] at hf
    rcases hf with rfl | rfl | rfl | rfl | rfl | rfl | rfl | rfl | rfl
    all_goals first | exact GoodF.box _ _ _ _ | exact atF_good _ _
  refine range_says (X := AX) (gf := 41) (encs := AX.encs) (Pl := AX.says cs w2.heap.size) (Kp := KpE (bx + 3) (bx + 7) (bx + 6)) (S := fun xs => xs.map (·.k) = satsN cs 32) (Sp := fun xs => xs.map (·.k) <+: satsN cs 32) (N := 32) (v0 := w2) (lb := #[.pointer (some ⟨bx + 7, 0, none⟩), .pointer (some ⟨bx + 6, 0, none⟩)]) rfl (enters_of Try.func41 (by kernel_rfl) rfl)
    (by have h := each_says cs q ko kc (bx + 3) (bx + 7) (bx + 6) w2 (fun c hc => (HG.out c hc).lit) (by have := HN.out; unfold maxLen; omega) (HC.out.kept S.bel) (fun b hb => by have := HQ.out b hb; have := HBX.out; omega) (by omega) (S.block 7) (by rw [← HN.out]; exact S.block 6); exact h)
    (Below.refl _ _) (fun _ => rfl) (fun A B C h k => h.trans k)
    (fun W l o o' hl ho hc hw => ⟨(Below.refl _ W).grown (grownBy_putObj' W l o') (by have := (Array.getElem?_eq_some_iff.1 ho).1; omega) (fun k e => by cases e; omega), World.putObj_heap_other (by omega), World.putObj_heap_other (by omega)⟩)
    (fun pre V => ∃ ov : Value, St w V [.box bx #[.int .i64 5, .slice ko n kc] 25, .box (bx + 1) #[.slice lo m lc] 23, .box (bx + 2) #[.slice wo m wc_] 22, .box (bx + 3) #[.int .i64 (stOf (bestX (soF ls ws) pre))] 3, .box (bx + 4) #[.int .i64 (bsOf (bestX (soF ls ws) pre))] 3, .box (bx + 5) #[atOf (bestX (soF ls ws) pre)] 30, .box (bx + 6) #[.slice ko n kc] 23, .box (bx + 7) #[.int .i64 5] 3, atF (bestX (soF ls ws) pre)] ∧ (fun (pre : List AX) (_ : Value) => ∀ b y, bestX (soF ls ws) pre = some (b, y) → bx + 8 ≤ y.g) pre ov ∧ w2.heap.size ≤ V.heap.size)
    (fun _ _ _ => False)
    (ownFrom_St (by have := HBX.out; omega) (fun _ => trivial) (fun (pre : List AX) (_ : Value) => ∀ b y, bestX (soF ls ws) pre = some (b, y) → bx + 8 ≤ y.g) (fun pre _ => [.box bx #[.int .i64 5, .slice ko n kc] 25, .box (bx + 1) #[.slice lo m lc] 23, .box (bx + 2) #[.slice wo m wc_] 22, .box (bx + 3) #[.int .i64 (stOf (bestX (soF ls ws) pre))] 3, .box (bx + 4) #[.int .i64 (bsOf (bestX (soF ls ws) pre))] 3, .box (bx + 5) #[atOf (bestX (soF ls ws) pre)] 30, .box (bx + 6) #[.slice ko n kc] 23, .box (bx + 7) #[.int .i64 5] 3, atF (bestX (soF ls ws) pre)]) (fun pre ov _ => hGF pre ov) w2.heap.size)
    (fun _ _ _ _ _ hs _ _ => hs)
    ⟨undef, S, by intro b y h; simp [bestX] at h, Nat.le_refl _⟩
    (fun y a' V => (V.heap[y.g]? = some (.cells (cellsF Value.bool (asgL y.k)) 4 (0, 0)) ∧ bx + 8 ≤ y.g ∧ y.k < 32) ∧ a' = { tmps := #[.agg #[.int .i64 5, .slice ko n kc], .slice lo m lc, .slice wo m wc_, .pointer (some ⟨bx, 0, none⟩), .pointer (some ⟨bx + 1, 0, none⟩), .pointer (some ⟨bx + 2, 0, none⟩), .int .i64 0, .int .i64 0, .slice none 0 0, .pointer (some ⟨bx + 3, 0, none⟩), .pointer (some ⟨bx + 4, 0, none⟩), .pointer (some ⟨bx + 5, 0, none⟩), .slice (some ⟨y.g, 0, none⟩) 5 5, undef, undef, undef, .pointer (some ⟨bx, 1, none⟩), .slice ko n kc, .pointer (some ⟨bx, 0, none⟩), .int .i64 5, .func (.func 41) #[] #[.pointer (some ⟨bx + 7, 0, none⟩), .pointer (some ⟨bx + 6, 0, none⟩)], .slice (some ⟨y.g, 0, none⟩) 5 5, undef, undef, undef, undef, undef, undef, undef, undef, undef, undef, undef, undef, undef, undef, undef, undef, undef, undef, undef, undef, undef, undef, undef, undef, undef, undef, undef, undef, undef, undef], defers := [] })
    (fun y a' _ A C row hs hg hr => ⟨⟨own_block y.g (fun _ : Unit => _) (fun _ => rfl) () A C row hs.1.1 hg (fun r e => (hr r e).2), hs.1.2⟩, hs.2⟩)
    ?assign ?body ?done ?stop
  case assign =>
    rintro ll pre y V K' ⟨ov, SV, hR, hV⟩ hpl hK
    have HK' := Lib.hid hK; have HSV := Lib.hid SV; have HR' := Lib.hid hR; have HPL := Lib.hid hpl
    simp only [AX.encs]
    clear hK hR hpl SV
    gi_wp2
    exact HK'.out _ _ (KeepsFrom.refl _ _) ⟨Below.refl _ _, rfl, rfl⟩ ⟨ov, HSV.out, HR'.out, hV⟩ ⟨⟨HPL.out.1, by have := HPL.out.2.1; have := HZ.out; omega, HPL.out.2.2.1⟩, rfl⟩
  case body =>
    rintro ll pre y a' V hl ⟨rr, hr⟩ ⟨ov, SV, hR, hV⟩ ⟨⟨hcy, hgy, hky⟩, rfl⟩ hlt3
    clear hr rr
    obtain ⟨k, g⟩ := y
    dsimp only at hcy hgy hky hR ⊢
    obtain ⟨s, hs⟩ : ∃ s, s = bestX (soF ls ws) pre := ⟨_, rfl⟩
    have HSS := Lib.hid (show bestX (soF ls ws) (pre ++ [⟨k, g⟩]) = bstep (soF ls ws) s ⟨k, g⟩ by rw [bestX_snoc, ← hs])
    rw [← hs] at SV hR
    have HSV := Lib.hid SV; have HCY := Lib.hid hcy; have HRV := Lib.hid hR
    have HBX2 : w.heap.size ≤ bx ∧ bx ≤ w.heap.size := by have := HBX.out; omega
    have hzz : bx + 8 ≤ w2.heap.size := by have := HZ.out; omega
    have HMM : m ≤ ls.length ∧ m ≤ ws.length := by have := HM.out; have := HWL.out; omega
    obtain ⟨x1, _⟩ := SV.one 1
    obtain ⟨x2, _⟩ := SV.one 2
    have hgl := heap_lt hcy
    clear hs hcy hR hz2 hGF S SV
    gi_wp2_with fail
    gi_loopw [13, 24] (fun sm i wr => ∃ j : Nat, j ≤ m ∧ i = .int .i64 j ∧ sm = .int .i64 (sumW ls ws (fB (asgL k)) j) ∧ Below V.heap.size V wr) (fun _ i _ => m - (intOf i).toNat)
    case atStart => exact ⟨0, by omega, rfl, rfl, Below.refl _ _⟩
    case round =>
      obtain ⟨j, hj, rfl, rfl, hbr⟩ := hrel
      have HBR := Lib.hid hbr
      have hsz := hbr.size
      have hSJ := sumW_ok (ls := ls) HWS.out (fB (asgL k)) j
      by_cases hlt : j < m
      · have hlti : (j : Int) < (m : Int) := by omega
        obtain ⟨b, off, ko', sp, rfl, hpb, c1, c2, c3⟩ := HL.out.ints (i := j) (by omega)
        obtain ⟨wb, woff, rfl, hrb, d1⟩ := HW.out.int (i := j) (by omega)
        have HGc := Lib.hid (HLL.out ls[j] (List.getElem_mem _))
        have HBW := Lib.hid (Below.step HSV.out.bel hbr)
        have e1 := Below.cellOf HBW.out c1
        have e2 := Below.cellOf HBW.out d1
        have f1 := Below.cellOf hbr x1
        have f2 := Below.cellOf hbr x2
        have HST := Lib.hid (show sumW ls ws (fB (asgL k)) (j + 1) = sumW ls ws (fB (asgL k)) j + (if satT (fB (asgL k)) ls[j] then 0 else ws[j]) by rw [sumW, List.getD_eq_getElem?_getD, List.getElem?_eq_getElem (by omega), gI_get (by omega)]; rfl)
        have HWB := Lib.hid (HWS.out ws[j] (List.getElem_mem _))
        obtain ⟨S0, hS0⟩ : ∃ s, s = sumW ls ws (fB (asgL k)) j := ⟨_, rfl⟩
        rw [← hS0] at HST hSJ ⊢
        have HC1 := sat39 0 (fun c => c = g) p ko' (some ⟨g, 0, none⟩) ls[j] (asgL k) (ls[j].length + sp) 5 wr (fun l hl => by rw [asgL_length]; exact HGc.out.lit l hl) c3 (by rw [asgL_length]; omega) (c2.kept HBW.out) (row_cellsB rfl ((HBR.out.block g hgl).trans HCY.out))
        rw [asgL_length] at HC1
        have HCC := Lib.hid HC1
        obtain ⟨B1, hB1⟩ : ∃ s, s = satT (fB (asgL k)) ls[j] := ⟨_, rfl⟩
        obtain ⟨cl, hcl2⟩ : ∃ s, s = ls[j].length := ⟨_, rfl⟩
        obtain ⟨wj, hwj⟩ : ∃ s, s = ws[j] := ⟨_, rfl⟩
        rw [← hB1] at HST HCC
        rw [← hcl2] at HCC e1
        rw [← hwj] at HST HWB e2
        clear hbr c1 c2 c3 d1 x1 x2 hB1 hcl2 hwj hS0 HC1
        gi_wp2_with fail
        refine ⟨trivial, ?_⟩
        refine (callsIn_wide.2 HCC.out).mono ?_
        rintro e w3 ⟨rfl, hb3⟩
        have HB3 := Lib.hid (Below.step HBR.out hb3)
        have g1 := Below.cellOf hb3 f2
        have g2 := Below.cellOf hb3 e2
        clear hb3 e1 e2 f1 f2
        have hwb := HWB.out
        cases B1 with
        | true =>
          have HST' := Lib.hid (show sumW ls ws (fB (asgL k)) (j + 1) = S0 by rw [HST.out]; simp)
          gi_wp2_with fail
          go_roundw
          case rel => exact ⟨j + 1, by omega, by go_num, by rw [HST'.out], HB3.out⟩
          case measure => simp [intOf] <;> omega
        | false =>
          have HST' := Lib.hid (show sumW ls ws (fB (asgL k)) (j + 1) = S0 + wj by rw [HST.out]; simp)
          have ha : IntKind.i64.wrap (S0 + wj) = S0 + wj := IntWalk.i64_in _ (by omega)
          gi_wp2_with fail
          go_roundw
          case rel => exact ⟨j + 1, by omega, by go_num, by rw [HST'.out], HB3.out⟩
          case measure => simp [intOf] <;> omega
      · obtain rfl : j = m := by omega
        clear x1 x2
        have SW := HSV.out.step hbr
        obtain ⟨SM, hSM⟩ : ∃ s, s = sumW ls ws (fB (asgL k)) j := ⟨_, rfl⟩
        have HSM := Lib.hid (show soF ls ws k = SM by unfold soF; rw [hSM, HM.out])
        rw [← hSM] at hSJ ⊢
        clear hSM hbr
        obtain ⟨x3, _⟩ := SW.one 3
        obtain ⟨x4, _⟩ := SW.one 4
        obtain ⟨x5, _⟩ := SW.one 5
        have hl3 := SW.lt 3
        have hl4 := SW.lt 4
        have hl5 := SW.lt 5
        have hkf : KeepsFrom w2.heap.size V wr := ⟨hsz, fun i o hi ho _ => (HBR.out.block i (Array.getElem?_eq_some_iff.1 ho).1).trans ho⟩
        have HKF := Lib.hid hkf
        have HSW := Lib.hid SW
        clear SW hkf
        have hat : ∀ d, d < bx + 8 → ¬ (atF s).foot d := fun d hd h => by
          cases s with
          | none => exact h.elim
          | some p =>
            obtain ⟨b0, y0⟩ := p
            have h1 := HRV.out b0 y0 rfl
            have h2 : d = y0.g := h
            omega
        have HAT := Lib.hid hat
        have hfin : ∀ (W' : World), W' = ((wr.setCell ⟨bx + 3, 0, none⟩ (.int .i64 1)).setCell ⟨bx + 4, 0, none⟩ (.int .i64 SM)).setCell ⟨bx + 5, 0, none⟩ (.slice (some ⟨g, 0, none⟩) 5 5) →
            bstep (soF ls ws) s ⟨k, g⟩ = some (SM, ⟨k, g⟩) → KeepsFrom w2.heap.size V W' ∧ KpE (bx + 3) (bx + 7) (bx + 6) V W' ∧ ∃ ov : Value, St w W' [.box bx #[.int .i64 5, .slice ko n kc] 25, .box (bx + 1) #[.slice lo j lc] 23, .box (bx + 2) #[.slice wo j wc_] 22, .box (bx + 3) #[.int .i64 (stOf (bestX (soF ls ws) (pre ++ [⟨k, g⟩])))] 3, .box (bx + 4) #[.int .i64 (bsOf (bestX (soF ls ws) (pre ++ [⟨k, g⟩])))] 3, .box (bx + 5) #[atOf (bestX (soF ls ws) (pre ++ [⟨k, g⟩]))] 30, .box (bx + 6) #[.slice ko n kc] 23, .box (bx + 7) #[.int .i64 5] 3, atF (bestX (soF ls ws) (pre ++ [⟨k, g⟩]))] ∧ (fun (pre : List AX) (_ : Value) => ∀ b y, bestX (soF ls ws) pre = some (b, y) → bx + 8 ≤ y.g) (pre ++ [⟨k, g⟩]) ov ∧ w2.heap.size ≤ W'.heap.size := by
          intro W' hW' hb
          have ne7 : ∀ d, d ≠ bx + 3 → d ≠ bx + 4 → d ≠ bx + 5 → W'.heap[d]? = wr.heap[d]? := fun d h3 h4 h5 => by
            rw [hW']
            exact (Below.heap_setCell _ _ _ _ h5).trans ((Below.heap_setCell _ _ _ _ h4).trans (Below.heap_setCell _ _ _ _ h3))
          have hsz' : W'.heap.size = wr.heap.size := by rw [hW']; simp [World.setCell]
          refine ⟨?_, ⟨?_, ?_, ?_⟩, undef, ?_, ?_, by omega⟩
          · rw [hW']
            exact HKF.out.trans ((((KeepsOthers.setCell _ _ _).from _).trans ((KeepsOthers.setCell _ _ _).from _)).trans ((KeepsOthers.setCell _ _ _).from _))
          · rw [hW']
            exact (((HBR.out.mono (show bx + 3 ≤ V.heap.size by omega)).setCell (p := ⟨bx + 3, 0, none⟩) (Nat.le_refl _) _).setCell (p := ⟨bx + 4, 0, none⟩) (by show bx + 3 ≤ bx + 4; omega) _).setCell (p := ⟨bx + 5, 0, none⟩) (by show bx + 3 ≤ bx + 5; omega) _
          · exact (ne7 _ (by omega) (by omega) (by omega)).trans (HBR.out.block _ (by omega))
          · exact (ne7 _ (by omega) (by omega) (by omega)).trans (HBR.out.block _ (by omega))
          · have h3 := HAT.out (bx + 3) (by omega)
            have h4 := HAT.out (bx + 4) (by omega)
            have h5 := HAT.out (bx + 5) (by omega)
            have hX := ((HSW.out.set1 3 rfl (.int .i64 1) (by omega) (by simp only [offs, offAll, Fct.box, and_true]; exact ⟨by omega, by omega, by omega, by omega, by omega, by omega, by omega, h3⟩)).set1 4 rfl (.int .i64 SM) (by omega) (by simp only [fset, offs, offAll, Fct.box, and_true]; exact ⟨by omega, by omega, by omega, by omega, by omega, by omega, by omega, h4⟩)).set1 5 rfl (.slice (some ⟨g, 0, none⟩) 5 5) (by omega) (by simp only [fset, offs, offAll, Fct.box, and_true]; exact ⟨by omega, by omega, by omega, by omega, by omega, by omega, by omega, h5⟩)
            rw [← hW'] at hX
            rw [HSS.out, hb]
            exact hX.repl 8 (.box g (cellsF Value.bool (asgL k)) 4) ((ne7 g (by omega) (by omega) (by omega)).trans ((HBR.out.block g hgl).trans HCY.out))
          · intro b0 y0 h0
            rw [HSS.out, hb] at h0
            obtain ⟨rfl, rfl⟩ : SM = b0 ∧ (⟨k, g⟩ : AX) = y0 := by simpa using h0
            exact hgy
        have HFI := Lib.hid hfin
        clear hat hfin
        cases s with
        | none =>
          replace x3 : wr.cell? ⟨bx + 3, 0, none⟩ = some (.int .i64 2) := x3
          replace x4 : wr.cell? ⟨bx + 4, 0, none⟩ = some (.int .i64 0) := x4
          gi_wp2_with fail
          obtain ⟨h1, h2, _, h3⟩ := HFI.out _ rfl (by rw [← HSM.out]; rfl)
          exact ⟨h1, h2, h3⟩
        | some p =>
          obtain ⟨b0, y0⟩ := p
          replace x3 : wr.cell? ⟨bx + 3, 0, none⟩ = some (.int .i64 1) := x3
          replace x4 : wr.cell? ⟨bx + 4, 0, none⟩ = some (.int .i64 b0) := x4
          by_cases hlt : SM < b0
          · gi_wp2_with fail
            obtain ⟨h1, h2, _, h3⟩ := HFI.out _ rfl (by show (if soF ls ws k < b0 then _ else _) = _; rw [HSM.out, if_pos hlt])
            exact ⟨h1, h2, h3⟩
          · have HNB := Lib.hid (show bstep (soF ls ws) (some (b0, y0)) ⟨k, g⟩ = some (b0, y0) by show (if soF ls ws k < b0 then _ else _) = _; rw [HSM.out, if_neg hlt])
            gi_wp2_with fail
            exact ⟨HKF.out, ⟨HBR.out.mono (by omega), HBR.out.block _ (by omega), HBR.out.block _ (by omega)⟩, by rw [HSS.out, HNB.out]; exact HSW.out, by intro b1 y1 h1; rw [HSS.out, HNB.out] at h1; exact HRV.out b1 y1 h1, by omega⟩
  case done =>
    rintro D xs V hD hxs ⟨ov, SV, hR, hV⟩ hK
    obtain ⟨s, hs⟩ : ∃ s, s = bestX (soF ls ws) xs := ⟨_, rfl⟩
    have HRT := Lib.hid (show ∃ xs : List AX, xs.map (·.k) = satsN cs 32 ∧ bestX (soF ls ws) xs = s from ⟨xs, hxs, hs.symm⟩)
    have HGT := Lib.hid (show ∀ b y, s = some (b, y) → w.heap.size ≤ y.g from fun b y e => by have := hR b y (by rw [← hs, e]); have := HBX.out; omega)
    rw [← hs] at SV
    have HBX2 : w.heap.size ≤ bx ∧ bx ≤ w.heap.size := by have := HBX.out; omega
    have hzz : bx + 8 ≤ w2.heap.size := by have := HZ.out; omega
    obtain ⟨x3, _⟩ := SV.one 3
    obtain ⟨x4, _⟩ := SV.one 4
    obtain ⟨x5, _⟩ := SV.one 5
    have HSV := Lib.hid SV
    have HM2 : Hid (Marks w.heap.size V.drew [D]) := Lib.hid ⟨by simp, fun D' h => (show D' = D by simpa using h) ▸ ⟨(show w.heap.size ≤ D by omega), hK⟩⟩
    clear hs hxs hR SV hK hGF S hz2
    gi_wp2_with fail
    refine wpIn_wide.2 ?_
    go_region
    all_goals gi_wp2_with fail
    all_goals
      refine bodyM_marks (ds := [D]) HM2.out (by show w.heap.size ≤ V.heap.size; omega) (fun w' hb' hk' => ?_)
      refine ⟨.tuple #[.int .i64 (stOf s), .int .i64 (bsOf s), atOf s], by simp [results, Try.results16, go_sem], ?_⟩
      obtain ⟨xs, h1, h2⟩ := HRT.out
      refine ⟨xs, h1, by rw [h2], ?_, by rw [h2]; exact HGT.out, HSV.out.drew.bel.trans hb'⟩
      rw [h2]
      have h8 : (atF s).holds V.drew := HSV.out.drew.2 8
      cases s with
      | none => trivial
      | some p => exact (hk' _ _ _ _ h8).trans h8
  case stop =>
    rintro D c' pre V _ _ h _
    exact h.elim
end Go.Proofs.Ytlpoedjipncbhaa
