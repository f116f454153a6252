/-
  Walks: index.find.
-/
import Derived.Test.YtlhnfdjidjgfgaaProg
import Derived.Test.YtlhnfdjidjgfgaaE6
import Derived.Test.YtlhnfdjidjgfgaaXd
import Derived.RegionTactic
import Derived.Deep.DeepCutAuto
namespace Go.Proofs.Ytlhnfdjidjgfgaa
open Go.RowKit Go.Shelf
set_option linter.unusedVariables false
set_option maxHeartbeats 400000

/-- what is wrong with the first that is wrong -/
def firstT : List T → Int → Int × Int
  | [], _ => (0, 0)
  | x :: r, i => if (treeF x).1 ≠ 0 then ((treeF x).1, i) else firstT r (i + 1)
def findF (ks : List T) (t : T) : Int × Int := if 60 < ks.length then (2, -1) else if (firstT ks 0).1 ≠ 0 then firstT ks 0 else if (treeF t).1 ≠ 0 then ((treeF t).1, -2) else (0, 0)
theorem firstT_hit : ∀ {ks : List T} {k : Nat} {a : Int}, (∀ j, j < k → (treeF (gK ks j)).1 = 0) → k < ks.length → (treeF (gK ks k)).1 ≠ 0 → firstT ks a = ((treeF (gK ks k)).1, a + k)
  | [], k, a, _, h, _ => by simp at h
  | x :: r, 0, a, _, h, hc => by
    have hc : (treeF x).1 ≠ 0 := hc
    rw [firstT, if_pos hc]
    show ((treeF x).1, a) = ((treeF x).1, a + 0)
    rw [Int.add_zero]
  | x :: r, k + 1, a, hj, h, hc => by
    have h0 : (treeF x).1 = 0 := hj 0 (by omega)
    rw [firstT, if_neg (by simpa using h0), firstT_hit (ks := r) (k := k) (fun j hlt => hj (j + 1) (by omega)) (by simpa using h) hc]
    show ((treeF (gK r k)).1, a + 1 + k) = ((treeF (gK r k)).1, a + ((k + 1 : Nat) : Int))
    congr 1; omega
theorem firstT_none : ∀ {ks : List T} {a : Int}, (∀ j, j < ks.length → (treeF (gK ks j)).1 = 0) → firstT ks a = (0, 0)
  | [], a, _ => rfl
  | x :: r, a, hj => by
    have h0 : (treeF x).1 = 0 := hj 0 (by simp)
    rw [firstT, if_neg (by simpa using h0), firstT_none (fun j hlt => hj (j + 1) (by simpa using hlt))]
/-- the places at which something holds -/
def idxs (p : Nat → Bool) (n : Nat) : List Int := ((List.range n).filter p).map (fun i : Nat => (i : Int))
theorem idxs_succ (p : Nat → Bool) (n : Nat) : idxs p (n + 1) = if p n then idxs p n ++ [(n : Int)] else idxs p n := by
  unfold idxs
  rw [List.range_succ, List.filter_append, List.map_append]
  by_cases h : p n <;> simp [h]
theorem idxs_len (p : Nat → Bool) (n : Nat) : (idxs p n).length ≤ n := by
  unfold idxs
  rw [List.length_map]
  exact Nat.le_trans (List.length_filter_le _ _) (by simp)
def FindP (ks : List T) (t : T) (p : Nat → Bool) (w : World) (e : Ending) (w' : World) : Prop :=
  ∃ (L : List Int) (f : Int × Int) (ro : Option Addr) (rc : Nat), e = .returned (.tuple #[.slice ro L.length rc, FV f]) ∧ f = findF ks t ∧ L = (if f.1 = 0 then idxs p ks.length else []) ∧ intE.Row (fun b => w.heap.size ≤ b) w' ro L ∧ Below w.heap.size w w'

set_option maxRecDepth 100000 in
set_option maxHeartbeats 4000000 in
theorem find91 (fn : Nat) (cap : Array Value) (eg : ∀ args w, (callFunc fn args).run Try.prog w = .ok (.enter fn args) w)
    (ao : Option Addr) (ks : List T) (c : Nat) (t : T) (v : Value) (p : Nat → Bool) (w : World) (hn : ks.length ≤ 9223372036854775807) (hr : RowAt w ao ks) (ht : TreeAt w v t)
    (hf : (findF ks t).1 = 0 → ∀ i w1 u, i < ks.length → Below w.heap.size w w1 → TreeAt w1 u (gK ks i) → Calls Try.prog fn (#[u] ++ cap) w1 fun e w2 => e = .returned (.bool (p i)) ∧ Below w1.heap.size w1 w2) :
    Calls Try.prog 91 #[.slice ao ks.length c, v, .func (.func fn) #[] cap] w (FindP ks t p w) := by
  obtain ⟨tk, ts, rfl⟩ := ht.form
  have HF := Lib.hid hf; have HR := Lib.hid hr; have HT := Lib.hid ht
  obtain ⟨bx, hbx⟩ : ∃ b, b = w.heap.size := ⟨_, rfl⟩
  have S1 := ((St.start w).box hbx.symm #[.int .i64 t.head, .slice tk t.kids.length (t.kids.length + ts)] 38).box (b := bx + 1) (by simp [hbx]) #[.int .i64 0, .int .i64 0] 29
  have hsz2 : ((w.alloc (.cells #[.int .i64 t.head, .slice tk t.kids.length (t.kids.length + ts)] 38)).alloc (.cells #[.int .i64 0, .int .i64 0] 29)).heap.size = bx + 2 := by simp [hbx]
  have HBX := Lib.hid hbx
  clear hf hr ht
  obtain ⟨iI, gi, gz0, gz1, gz2⟩ := info_parts infoI
  by_cases h60 : 60 < ks.length
  · have h60i : (60 : Int) < (ks.length : Int) := by omega
    have HFF := Lib.hid (show findF ks t = (2, -1) from if_pos h60)
    have S2 := Lib.hid (((St.start w).box hbx.symm #[.int .i64 t.head, .slice tk t.kids.length (t.kids.length + ts)] 38).box (b := bx + 1) (by simp [hbx]) #[.int .i64 2, .int .i64 (-1)] 29)
    obtain ⟨⟨x0, x1⟩, x2, x3⟩ := S1.two 1
    have hl := S1.lt 1
    clear S1 hsz2
    rw [hbx] at x0 x1 x2 x3 hl S2
    clear hbx
    go_enter Try.func91, Try.ntmps91
    go_wp2_with fail
    refine bodyPost_ret (v := .tuple #[.slice none 0 0, .agg #[.int .i64 2, .int .i64 (-1)]]) ?_ rfl ?_
    · obtain ⟨⟨z0, _⟩, z1, _⟩ := S2.out.two 1
      simp [results, Try.results91, go_sem, z0, z1]
    · exact ⟨[], (2, -1), none, 0, rfl, HFF.out.symm, rfl, Elt.Row.nil, S2.out.bel⟩
  · have h60i : ¬ (60 : Int) < (ks.length : Int) := by omega
    have hn60 : ks.length ≤ 60 := by omega
    have HFF := Lib.hid (show findF ks t = if (firstT ks 0).1 ≠ 0 then firstT ks 0 else if (treeF t).1 ≠ 0 then ((treeF t).1, -2) else (0, 0) from if_neg h60)
    go_enter Try.func91, Try.ntmps91
    go_wp2_with fail
    rw [← hbx]
    refine S1.genC (z := bx + 2) (by omega) ?_
    intro w1 z1 S
    clear S1 hsz2 hbx h60 h60i
    change St w w1 [.box bx #[.int .i64 t.head, .slice tk t.kids.length (t.kids.length + ts)] 38, .box (bx + 1) #[.int .i64 0, .int .i64 0] 29] at S
    go_loopw [21] (fun i wr => ∃ k : Nat, k ≤ ks.length ∧ i = .int .i64 k ∧ Hid (∀ j, j < k → (treeF (gK ks j)).1 = 0) ∧ bx + 2 ≤ wr.heap.size ∧ St w wr [.box bx #[.int .i64 t.head, .slice tk t.kids.length (t.kids.length + ts)] 38, .box (bx + 1) #[.int .i64 0, .int .i64 0] 29]) (fun i _ => ks.length - (intOf i).toNat)
    case atStart => exact ⟨0, by omega, rfl, (fun j h => by omega), z1, S⟩
    case round =>
      clear S z1
      obtain ⟨k, hk, rfl, HNO, z1, S⟩ := hrel
      by_cases hlt : k < ks.length
      · have hlti : (k : Int) < (ks.length : Int) := by omega
        obtain ⟨b, off, ko, ksp, rfl, c0w, c1w, c2w⟩ := HR.out k hlt
        have c0 := Below.cellOf S.bel c0w
        have c1 := Below.cellOf S.bel c1w
        have HKT := Lib.hid c2w
        obtain ⟨bk, hbk⟩ : ∃ q, q = wr.heap.size := ⟨_, rfl⟩
        have SA := S.box (b := bk) hbk.symm #[.int .i64 (gK ks k).head, .slice ko (gK ks k).kids.length ((gK ks k).kids.length + ksp)] 38
        have HBK := Lib.hid (show bx + 2 ≤ bk by omega)
        clear c0w c1w c2w
        go_wp2_with fail
        rw [← hbk]
        refine St.gen SA (z := bk + 1) (by simp [hbk]) ?_
        intro wa za SB
        clear S SA hbk c0 c1
        refine (SB.faultF (check29 (gK ks k) _ wa (HKT.out.kept SB.bel))).mono ?_
        rintro e wb ⟨fc, fd, rfl, HFC, zb, SC⟩
        obtain ⟨bf, hbf⟩ : ∃ q, q = wb.heap.size := ⟨_, rfl⟩
        have SD := SC.box (b := bf) hbf.symm #[.int .i64 fc, .int .i64 fd] 29
        have HBF := Lib.hid (show bk + 1 ≤ bf by omega)
        clear SB SC
        cases hfc : (fc != 0) with
        | true =>
          have HF2 := Lib.hid (show findF ks t = (fc, (k : Int)) by
            have h := firstT_hit (a := 0) HNO.out hlt (by rw [HFC.out]; simpa using hfc)
            rw [HFC.out] at h
            rw [HFF.out, h, if_pos (by simpa using hfc)]; simp)
          have hfn : fc ≠ 0 := by simpa using hfc
          have HFN := Lib.hid hfn
          clear hfn
          go_upto_region 8 with fail
          rw [← hbf]
          refine SD.genC (z := bf + 1) (by simp [hbf]) ?_
          intro wd zd SE
          have SF := SE.drew
          clear SD hbf
          obtain ⟨⟨x0, x1⟩, x2, x3⟩ := SE.two 1
          obtain ⟨⟨u0, u1⟩, u2, u3⟩ := SE.two 3
          obtain ⟨⟨y0, y1⟩, y2, y3⟩ := SF.two 1
          obtain ⟨⟨v0, v1⟩, v2, v3⟩ := SF.two 3
          have hl := SE.lt 1
          have hne : ¬ bx + 1 = bf := by have := HBK.out; have := HBF.out; omega
          have hne2 : ¬ bf = bx + 1 := by have := HBK.out; have := HBF.out; omega
          have SG := Lib.hid (SE.set2 1 rfl (.int .i64 fc) (.int .i64 k) (by have := HBX.out; omega) (by have := HBK.out; have := HBF.out; simp only [fsnoc, offs, offAll, Fct.box, and_true]; omega)).drew
          clear SE SF
          go_region
          all_goals
            go_wp2_with fail
            refine bodyPost_ret (v := .tuple #[.slice none 0 0, .agg #[.int .i64 fc, .int .i64 k]]) ?_ rfl ?_
            · obtain ⟨⟨z0, _⟩, z1, _⟩ := SG.out.two 1
              simp [results, Try.results91, go_sem, z0, z1]
            · exact ⟨[], (fc, (k : Int)), none, 0, rfl, HF2.out.symm, (if_neg HFN.out).symm, Elt.Row.nil, SG.out.bel⟩
        | false =>
          have HNO2 := Lib.hid (show ∀ j, j < k + 1 → (treeF (gK ks j)).1 = 0 from fun j hj => by
            by_cases e : j = k
            · subst e; rw [HFC.out]; simpa using hfc
            · exact HNO.out j (by omega))
          have SG := Lib.hid (SD.pick [0, 1])
          have zg : bx + 2 ≤ (wb.alloc (.cells #[.int .i64 fc, .int .i64 fd] 29)).heap.size := by have := HBK.out; simp; omega
          obtain ⟨⟨u0, u1⟩, u2, u3⟩ := SD.two 3
          clear SD
          go_wp2_with fail
          go_roundw
          case rel => exact ⟨k + 1, by omega, by go_num, HNO2, zg, SG.out⟩
          case measure => simp [intOf] <;> omega
      · obtain rfl : k = ks.length := by omega
        have HFK := Lib.hid (show findF ks t = if (treeF t).1 ≠ 0 then ((treeF t).1, -2) else (0, 0) by rw [HFF.out, firstT_none HNO.out]; simp)
        obtain ⟨⟨x0, _⟩, x1, _⟩ := S.two 0
        go_wp2_with fail
        refine (S.faultF (check29 t _ wr (HT.out.kept S.bel))).mono ?_
        rintro e w3 ⟨tc, td, rfl, HTC, z3, S3⟩
        clear S x0 x1
        obtain ⟨bf, hbf⟩ : ∃ q, q = w3.heap.size := ⟨_, rfl⟩
        have SD := S3.box (b := bf) hbf.symm #[.int .i64 tc, .int .i64 td] 29
        have HBF := Lib.hid (show bx + 2 ≤ bf by omega)
        clear S3
        cases htc : (tc != 0) with
        | true =>
          have HFN := Lib.hid (show tc ≠ 0 by simpa using htc)
          have HF2 := Lib.hid (show findF ks t = (tc, -2) by rw [HFK.out, if_pos (by rw [HTC.out]; exact HFN.out), HTC.out])
          go_upto_region 12 with fail
          rw [← hbf]
          refine SD.genC (z := bf + 1) (by simp [hbf]) ?_
          intro wd zd SE
          have SF := SE.drew
          clear SD hbf
          obtain ⟨⟨x0, x1⟩, x2, x3⟩ := SE.two 1
          obtain ⟨⟨u0, u1⟩, u2, u3⟩ := SE.two 2
          obtain ⟨⟨y0, y1⟩, y2, y3⟩ := SF.two 1
          obtain ⟨⟨v0, v1⟩, v2, v3⟩ := SF.two 2
          have hl := SE.lt 1
          have hne : ¬ bx + 1 = bf := by have := HBF.out; omega
          have hne2 : ¬ bf = bx + 1 := by have := HBF.out; omega
          have SG := Lib.hid (SE.set2 1 rfl (.int .i64 tc) (.int .i64 (-2)) (by have := HBX.out; omega) (by have := HBF.out; simp only [fsnoc, offs, offAll, Fct.box, and_true]; omega)).drew
          clear SE SF
          go_region
          all_goals
            go_wp2_with fail
            refine bodyPost_ret (v := .tuple #[.slice none 0 0, .agg #[.int .i64 tc, .int .i64 (-2)]]) ?_ rfl ?_
            · obtain ⟨⟨z0, _⟩, z1, _⟩ := SG.out.two 1
              simp [results, Try.results91, go_sem, z0, z1]
            · exact ⟨[], (tc, -2), none, 0, rfl, HF2.out.symm, (if_neg HFN.out).symm, Elt.Row.nil, SG.out.bel⟩
        | false =>
          have hT0 : tc = 0 := by simpa using htc
          have HF2 := Lib.hid (show findF ks t = (0, 0) by rw [HFK.out, if_neg (by rw [HTC.out]; simpa using hT0)])
          have HCL := Lib.hid (HF.out (by rw [HF2.out]))
          clear hT0
          obtain ⟨⟨u0, u1⟩, u2, u3⟩ := SD.two 2
          go_wp2_with fail
          rw [← hbf]
          refine SD.genC (z := bf + 1) (by simp [hbf]) ?_
          intro wd zd SE
          clear SD hbf u0 u1 u2 u3 htc
          have S := (SE.pick [0, 1]).add (.owns intE (bf + 1) pF (.slice none 0 0) []) (Elt.Own.nil _ _ _ _)
          change St w wd [.box bx #[.int .i64 t.head, .slice tk t.kids.length (t.kids.length + ts)] 38, .box (bx + 1) #[.int .i64 0, .int .i64 0] 29, .owns intE (bf + 1) pF (.slice none 0 0) []] at S
          clear SE
          go_loopw [12, 46] (fun ov i wr => ∃ (k : Nat) (o : Value), ov = o ∧ k ≤ ks.length ∧ i = .int .i64 k ∧ bf + 1 ≤ wr.heap.size ∧ St w wr [.box bx #[.int .i64 t.head, .slice tk t.kids.length (t.kids.length + ts)] 38, .box (bx + 1) #[.int .i64 0, .int .i64 0] 29, .owns intE (bf + 1) pF o (idxs p k)]) (fun _ i _ => ks.length - (intOf i).toNat)
          case atStart => exact ⟨0, _, rfl, by omega, rfl, zd, S⟩
          case round =>
            clear S zd
            obtain ⟨k, o, ho, hk, rfl, z1, S⟩ := hrel
            replace ho := ho.symm
            subst ho
            by_cases hlt : k < ks.length
            · have hlti : (k : Int) < (ks.length : Int) := by omega
              obtain ⟨b, off, ko, ksp, rfl, c0w, c1w, c2w⟩ := HR.out k hlt
              have c0 := Below.cellOf S.bel c0w
              have c1 := Below.cellOf S.bel c1w
              have HKT := Lib.hid c2w
              have HLN := Lib.hid (idxs_len p k)
              obtain ⟨bk, hbk⟩ : ∃ q, q = wr.heap.size := ⟨_, rfl⟩
              have SA := S.box (b := bk) hbk.symm #[.int .i64 (gK ks k).head, .slice ko (gK ks k).kids.length ((gK ks k).kids.length + ksp)] 38
              have HBK := Lib.hid (show bf + 1 ≤ bk by omega)
              have HOW : ∀ q, o.ownBlock = some q → bf + 1 ≤ q ∧ q < bk := fun q hq => by rw [hbk]; exact S.ownlt intE 2 rfl q hq
              clear c0w c1w c2w
              go_wp2_with fail
              rw [← hbk]
              refine St.gen SA (z := bk + 1) (by simp [hbk]) ?_
              intro wa za SB
              clear S SA hbk c0 c1
              refine (SB.quiet (HCL.out k wa _ hlt SB.bel (HKT.out.kept SB.bel))).mono ?_
              rintro e wb ⟨rfl, zb, SC⟩
              have HOWN := Lib.hid (show ∀ q, o.ownBlock = some q → bf + 1 ≤ q ∧ q < bk from HOW)
              clear SB HOW
              cases hp : p k with
              | true =>
                have HIX := Lib.hid (show idxs p (k + 1) = idxs p k ++ [(k : Int)] by rw [idxs_succ, if_pos hp])
                clear hp
                go_wp2_with (at_builtin; refine wpList_app rfl (.tmp 54) (.tmp 56) 22 rfl intE SC 2 rfl (x := (k : Int)) (q := pF) (p' := pF) rfl Try.underlying22 gi gz0 gz1 gz2 rfl rfl rfl rfl ?c1 ?c2 ?c3 ?c4 ?c5 ?c6 ?c7 ?_)
                case c1 => have := HLN.out; unfold maxLen; omega
                case c2 => have := HLN.out; omega
                case c3 => have := HBK.out; omega
                case c4 => have := HBX.out; have := HBF.out; omega
                case c5 => intro q h1 h2 h3; have := HBF.out; have h4 := (HOWN.out q h1); simp only [fsnoc, offs, offAll, Fct.box, and_true]; omega
                case c6 => intro q h; exact h.elim
                case c7 => intro q h; rcases h with h | h <;> exact h.elim
                intro gg cap2 w5 S6 hs6 hgg hat
                have S7 := S6.pick [0, 1, 2]
                have S8 : St w w5 [.box bx #[.int .i64 t.head, .slice tk t.kids.length (t.kids.length + ts)] 38, .box (bx + 1) #[.int .i64 0, .int .i64 0] 29, .owns intE (bf + 1) pF (.slice (some ⟨gg, 0, none⟩) ((idxs p k).length + 1) cap2) (idxs p (k + 1))] := by rw [HIX.out]; exact S7
                have S9 := Lib.hid S8
                have z9 : bf + 1 ≤ w5.heap.size := by have := HBK.out; omega
                clear SC S6 S7 S8
                go_wp2_with fail
                go_roundw
                case rel => exact ⟨k + 1, _, rfl, by omega, by go_num, z9, S9.out⟩
                case measure => simp [intOf] <;> omega
              | false =>
                have HIX := Lib.hid (show idxs p (k + 1) = idxs p k by rw [idxs_succ, if_neg (by simp [hp])])
                have S9 := Lib.hid (SC.pick [0, 1, 2])
                have z9 : bf + 1 ≤ wb.heap.size := by have := HBK.out; omega
                clear SC hp
                go_wp2_with fail
                go_roundw
                case rel => exact ⟨k + 1, _, rfl, by omega, by go_num, z9, by rw [HIX.out]; exact S9.out⟩
                case measure => simp [intOf] <;> omega
            · obtain rfl : k = ks.length := by omega
              obtain ⟨ro, rsp, rfl, hrow, _⟩ := ((Elt.Own.mono (p := pF) (St.owns S intE 2 rfl) (q := fun b => w.heap.size ≤ b) (fun b h => False.elim h))).row (fun b h => by have := HBX.out; have := HBF.out; omega)
              obtain ⟨⟨x0, x1⟩, x2, x3⟩ := S.two 1
              have hl := S.lt 1
              have SG := Lib.hid (S.set2 1 rfl (.int .i64 0) (.int .i64 0) (by have := HBX.out; omega) (by
                have := HBF.out
                have h9 := S.ownlt intE 2
                simp only [offs, offAll, Fct.box, Fct.owns, and_true]
                refine ⟨by omega, fun h => ?_⟩
                rcases h with h | h
                · have := (h9 _ h).1; omega
                · exact h.elim))
              obtain ⟨ro2, rsp2, he2, hrow2, _⟩ := ((Elt.Own.mono (p := pF) (St.owns SG.out intE 2 rfl) (q := fun b => w.heap.size ≤ b) (fun b h => False.elim h))).row (fun b h => by have := HBX.out; have := HBF.out; omega)
              obtain ⟨rfl, _⟩ : ro = ro2 ∧ True := ⟨by simp only [Value.slice.injEq] at he2; exact he2.1, trivial⟩
              have HROW := Lib.hid hrow2
              clear S hrow hrow2 he2
              go_wp2_with fail
              refine bodyPost_ret (v := .tuple #[.slice ro (idxs p ks.length).length ((idxs p ks.length).length + rsp), .agg #[.int .i64 0, .int .i64 0]]) ?_ rfl ?_
              · obtain ⟨⟨z0, _⟩, z1, _⟩ := SG.out.two 1
                simp [results, Try.results91, go_sem, z0, z1]
              · exact ⟨idxs p ks.length, (0, 0), ro, _, rfl, HF2.out.symm, rfl, HROW.out, SG.out.bel⟩
end Go.Proofs.Ytlhnfdjidjgfgaa
