/-
  Walks: table.Eval.
  Walks: table.Wide.
  Is a claim true under every row of things: plain; the closure.
  Walks: table.True.
  Walks: table.Holds.
-/
import Derived.Test.YtlhnfdjidjgfgaaProg
import Derived.Test.YtlhnfdjidjgfgaaV2
import Derived.RegionTactic
import Derived.Lib.QuietBelow
import Derived.BigQuiet
import Derived.IntWalk
import Derived.Test.YtlhnfdjidjgfgaaV7
import Derived.Test.YtlhnfdjidjgfgaaG1
namespace Go.Proofs.Ytlhnfdjidjgfgaa
open Go.RowKit Go.Shelf
set_option linter.unusedVariables false
set_option maxHeartbeats 400000

theorem T.ev_eq {s : Nat} {tb : List (List Int)} {th : List Int} (t : T) : t.ev s tb th = if t.head < 0 then (if (th.length : Int) < -t.head then 0 else gI th (-t.head - 1).toNat) else gI (tb.getD (t.head - 1).toNat []) (evL s tb th t.kids 0).toNat := by
  obtain ⟨hd, ks⟩ := t
  rw [T.ev]; rfl

set_option maxRecDepth 100000 in
set_option maxHeartbeats 4000000 in
theorem eval76 (ar : List Int) (s : Nat) (tb : List (List Int)) (th : List Int) (hT : TabOK ar s tb) (hth : ThOK s th) (hl : th.length ≤ 1000000000) (t : T) : t.sig ar → ∀ (p q : Nat → Prop) (v : Value) (ao to_ : Option Addr) (sp c : Nat) (w : World), intsE.Row p w ao tb → intE.Row q w to_ th → TreeAt w v t →
    Calls Try.prog 122 #[.agg #[.int .i64 s, .slice ao tb.length (tb.length + sp)], v, .slice to_ th.length c] w fun e w' => e = .returned (.int .i64 (t.ev s tb th)) ∧ Below w.heap.size w w' := by
  induction t using T.ind with
  | h t ih =>
  intro hsg p q v ao to_ sp c w hrow hthr ht
  obtain ⟨tk, ts, rfl, hkr, hml⟩ := ht.open
  have HR := Lib.hid hrow; have HH := Lib.hid hthr; have HK := Lib.hid hkr; have HG := Lib.hid hsg
  have IH := Lib.hid ih
  obtain ⟨hn1, hn2, hn3, hn4, hn5⟩ := okN_num hsg.self.1
  have HN5 := Lib.hid hn5
  clear hn5
  have hs14 : 1 ≤ s ∧ s ≤ 4 := ⟨hT.1, hT.2.1⟩
  have HTB := Lib.hid hT
  obtain ⟨bx, hbx⟩ : ∃ b, b = w.heap.size := ⟨_, rfl⟩
  have S1 := ((St.start w).box hbx.symm #[.int .i64 s, .slice ao tb.length (tb.length + sp)] 55).box (b := bx + 1) (by simp [hbx]) #[.int .i64 t.head, .slice tk t.kids.length (t.kids.length + ts)] 38
  have hsz : ((w.alloc (.cells #[.int .i64 s, .slice ao tb.length (tb.length + sp)] 55)).alloc (.cells #[.int .i64 t.head, .slice tk t.kids.length (t.kids.length + ts)] 38)).heap.size = bx + 2 := by simp [hbx]
  clear hrow hthr hkr hsg ih ht hT
  by_cases hneg : t.head < 0
  · by_cases hlen : (th.length : Int) < -t.head
    · have HF := Lib.hid (show t.ev s tb th = 0 by rw [T.ev_eq, if_pos hneg, if_pos hlen])
      go_enter Try.func122, Try.ntmps122
      clear S1 hsz hbx
      go_wp2_with fail
      go_ret
      have hb := ((Below.refl w.heap.size w).alloc (Nat.le_refl _) (.cells #[.int .i64 s, .slice ao tb.length (tb.length + sp)] 55)).alloc (by simp) (.cells #[.int .i64 t.head, .slice tk t.kids.length (t.kids.length + ts)] 38)
      exact ⟨ret_int HF.out.symm, hb⟩
    · have HF := Lib.hid (show t.ev s tb th = gI th (-t.head - 1).toNat by rw [T.ev_eq, if_pos hneg, if_neg hlen])
      have hj : (-t.head - 1).toNat < th.length := by omega
      obtain ⟨b, off, rfl, hqb, c1⟩ := (HH.out.kept S1.bel).int hj
      rw [← gI_get hj, ← HF.out] at c1
      obtain ⟨j, hjj⟩ : ∃ j : Nat, j = (-t.head - 1).toNat := ⟨_, rfl⟩
      rw [← hjj] at c1 hj
      have hw : IntKind.i64.wrap (-t.head - 1) = (j : Int) := by rw [hjj, IntWalk.i64_in _ (by omega)]; omega
      have SE := Lib.hid S1.bel
      clear hjj S1 hsz hbx
      go_enter Try.func122, Try.ntmps122
      go_wp2_with fail
      go_ret
      exact ⟨rfl, SE.out⟩
  · have HF := Lib.hid (show t.ev s tb th = gI (tb.getD (t.head - 1).toNat []) (evL s tb th t.kids 0).toNat by rw [T.ev_eq, if_neg hneg])
    have HNEG : Hid (¬ t.head < 0) := hneg
    go_enter Try.func122, Try.ntmps122
    go_wp2_with fail
    rw [← hbx]
    refine S1.genC (z := bx + 2) (by omega) ?_
    intro w1 z1 S
    have HBX := Lib.hid hbx
    clear S1 hbx hsz
    have HKR := Lib.hid (fun i (hi : i < t.kids.length) => T.ev_range HTB.out hth (gK t.kids i) (HG.out.kid hi))
    have HRG := Lib.hid (fun k (hk : k ≤ t.kids.length) => show 0 ≤ evL s tb th (t.kids.take k) 0 ∧ evL s tb th (t.kids.take k) 0 < ((s ^ k : Nat) : Int) by
      have h := evL_range (s := s) (tb := tb) (th := th) hs14.1 (t.kids.take k) 0 0 (fun i hi => by
        have hi2 : i < k := by simp at hi; omega
        have : gK (t.kids.take k) i = gK t.kids i := by simp [gK, hi2]
        rw [this]; exact HKR.out i (by omega)) (by omega) (by simp)
      rw [show 0 + (t.kids.take k).length = k by simp; omega] at h
      exact h)
    go_loopw [7, 29] (fun a i wr => ∃ k : Nat, k ≤ t.kids.length ∧ i = .int .i64 k ∧ a = .int .i64 (evL s tb th (t.kids.take k) 0) ∧ bx + 2 ≤ wr.heap.size ∧ St w wr [.box bx #[.int .i64 s, .slice ao tb.length (tb.length + sp)] 55, .box (bx + 1) #[.int .i64 t.head, .slice tk t.kids.length (t.kids.length + ts)] 38]) (fun _ i _ => t.kids.length - (intOf i).toNat)
    case atStart => exact ⟨0, by omega, rfl, rfl, z1, S⟩
    case round =>
      clear S
      obtain ⟨k, hk, rfl, rfl, z2, S⟩ := hrel
      by_cases hlt : k < t.kids.length
      · have hlti : (k : Int) < (t.kids.length : Int) := by omega
        obtain ⟨b, off, xk, xs, rfl, c0, c1, c2⟩ := (HK.out.below S.bel) k hlt
        obtain ⟨X, hX⟩ : ∃ X, X = gK t.kids k := ⟨_, rfl⟩
        have HIH := Lib.hid (fun (W : World) (h : Below w.heap.size w W) (u : Value) (hu : TreeAt W u X) => IH.out k hlt (HG.out.kid hlt) p q u ao to_ sp c W (HR.out.kept h) (HH.out.kept h) (by rw [← hX]; exact hu))
        rw [← hX] at c0 c1 c2 HIH
        obtain ⟨A, hA⟩ : ∃ A, A = evL s tb th (t.kids.take k) 0 := ⟨_, rfl⟩
        obtain ⟨V, hV⟩ : ∃ V, V = X.ev s tb th := ⟨_, rfl⟩
        rw [← hA]
        rw [← hV] at HIH
        have HNX := Lib.hid (show evL s tb th (t.kids.take (k + 1)) 0 = A * s + V by rw [evL_take hlt, ← hA, ← hX, ← hV])
        have hA4 := HRG.out k hk
        rw [← hA] at hA4
        have hV4 := HKR.out k hlt
        rw [← hX, ← hV] at hV4
        have hpk : ((s ^ k : Nat) : Int) ≤ 64 := by
          have h1 : s ^ k ≤ 4 ^ k := Nat.pow_le_pow_left hs14.2 k
          have h2 : 4 ^ k ≤ 4 ^ 3 := Nat.pow_le_pow_right (by omega) (by omega)
          omega
        have hq1 : 0 ≤ A * (s : Int) := Int.mul_nonneg hA4.1 (by omega)
        have hq2 : A * (s : Int) ≤ 64 * 4 := Int.mul_le_mul (by omega) (by omega) (by omega) (by omega)
        obtain ⟨Q, hQ⟩ : ∃ Q, Q = A * (s : Int) := ⟨_, rfl⟩
        rw [← hQ] at hq1 hq2 HNX
        have hw1 : IntKind.i64.wrap (A * (s : Int)) = Q := by rw [← hQ]; exact IntWalk.i64_in _ (by omega)
        have hw2 : IntKind.i64.wrap (Q + V) = Q + V := IntWalk.i64_in _ (by omega)
        have HTX := Lib.hid c2
        obtain ⟨bk, hbk⟩ : ∃ b, b = wr.heap.size := ⟨_, rfl⟩
        have S2 := S.box hbk.symm #[.int .i64 X.head, .slice xk X.kids.length (X.kids.length + xs)] 38
        have z3 : bk + 1 ≤ (wr.alloc (.cells #[.int .i64 X.head, .slice xk X.kids.length (X.kids.length + xs)] 38)).heap.size := by simp [hbk]
        have HTX2 := Lib.hid (c2.kept ((Below.refl _ wr).alloc (Nat.le_refl _) (.cells #[.int .i64 X.head, .slice xk X.kids.length (X.kids.length + xs)] 38)))
        have HBK := Lib.hid (show bx + 2 ≤ bk by omega)
        clear c2 hX hA hV hQ S hpk hA4 hV4 hq1 hq2
        go_wp2_with fail
        rw [← hbk]
        have S2 := S2.add (.treeP (fun b => b < (wr.alloc (.cells #[.int .i64 X.head, .slice xk X.kids.length (X.kids.length + xs)] 38)).heap.size) _ X) HTX2.out.foot
        refine S2.genC (z := bk + 1) z3 ?_
        intro w3 z4 S3
        clear S2 z3 hbk c0 c1 HTX HTX2
        obtain ⟨⟨x0, _⟩, x1, _⟩ := S3.two 0
        obtain ⟨⟨y0, _⟩, y1, _⟩ := S3.two 2
        have CA := Lib.hid (fun d os => Calls.regrown_of (HIH.out (Go.Sort.grow (redrawn w3 d) os) (S3.regrown d os).bel _ (St.treeP (S3.regrown d os) 3 rfl).at))
        have r0 := cell_regrown x0; have r1 := cell_regrown x1; have r2 := cell_regrown y0; have r3 := cell_regrown y1
        clear x0 x1 y0 y1
        refine wp_region_quiet_below (by kernel_rfl) (by kernel_rfl) ?_
        repeat (go_big_quiet_step (exact CA.out _ _))
        refine wpQuiet_nil ?_
        intro _ hw'
        obtain ⟨⟨dq, osq⟩, hw''⟩ := hw'
        subst hw''
        refine (S3.regrown dq osq).genX (z := bk + 1) (Nat.le_trans z4 (below_regrown w3 dq osq).size) ?_
        intro w4 z5 S4
        have S5 := S4.pick [0, 1]
        have hbz : bx + 2 ≤ w4.heap.size := by have := HBK.out; omega
        clear r0 r1 r2 r3 CA S3 S4
        go_wp2_with fail
        go_roundw
        case rel => exact ⟨k + 1, by omega, by go_num, by rw [HNX.out], hbz, S5⟩
        case measure => simp [intOf] <;> omega
      · obtain rfl : k = t.kids.length := by omega
        have hA := HRG.out t.kids.length hk
        rw [List.take_length] at hA ⊢
        obtain ⟨h1, l, h2, h3, h4, h5⟩ := HTB.out.last HG.out (by have := HNEG.out; omega) hA.1 hA.2
        rw [h3] at HF
        obtain ⟨A, hAA⟩ : ∃ A, A = evL s tb th t.kids 0 := ⟨_, rfl⟩
        rw [← hAA] at HF h4 hA ⊢
        obtain ⟨b, off, k1, s1, rfl, hpb, c1, r1, hm1⟩ := (HR.out.kept S.bel).ints h1
        have hl0 : tb[(t.head - 1).toNat] = l := Option.some.inj ((List.getElem?_eq_getElem h1).symm.trans h2)
        rw [hl0] at c1 r1 hm1
        obtain ⟨b2, off2, rfl, hpb2, c2⟩ := r1.int h4
        rw [← gI_get h4, ← HF.out] at c2
        obtain ⟨j, hjj⟩ : ∃ j : Nat, j = (t.head - 1).toNat := ⟨_, rfl⟩
        rw [← hjj] at c1 h1
        have hw : IntKind.i64.wrap (t.head - 1) = (j : Int) := by rw [hjj, IntWalk.i64_in _ (by omega)]; have := HNEG.out; omega
        obtain ⟨i, hii⟩ : ∃ i : Nat, A = (i : Int) := ⟨A.toNat, by omega⟩
        rw [hii] at h4 c2 ⊢
        simp only [Int.toNat_natCast] at h4 c2
        obtain ⟨⟨x0, _⟩, x1, _⟩ := S.two 0
        obtain ⟨⟨y0, _⟩, y1, _⟩ := S.two 1
        have SE := Lib.hid S.bel
        clear hjj hii hA h5 h3 h2 hl0 hAA HF S
        go_wp2_with fail
        go_ret
        exact ⟨rfl, SE.out⟩
end Go.Proofs.Ytlhnfdjidjgfgaa
namespace Go.Proofs.Ytlhnfdjidjgfgaa
open Go.RowKit Go.Shelf
set_option linter.unusedVariables false
set_option maxHeartbeats 400000

/-- of a claim the number of its variables -/
def varsC (fs : List Fc) : Nat := (mostL (treesF fs)).toNat
theorem varsC_cast {fs : List Fc} : ((varsC fs : Nat) : Int) = mostL (treesF fs) := by
  have := mostL_nonneg (treesF fs)
  unfold varsC; omega
def wideB (s : Nat) (fs : List Fc) : Bool := decide ((4096 : Int) < (powN s 4096 (varsC fs) 1 : Nat))

set_option maxRecDepth 100000 in
set_option maxHeartbeats 4000000 in
theorem wide111 (s : Nat) (fs : List Fc) (p : Nat → Prop) (co : Option Addr) (sp b : Nat) (w : World) (hs : s ≤ 4) (hc : w.cell? ⟨b, 0, none⟩ = some (.int .i64 s)) (h : factE.Row p w co fs) (hn : fs.length ≤ 6) (hok : ∀ t ∈ treesF fs, (treeF t).1 = 0) :
    Calls Try.prog 118 #[.agg #[.slice co fs.length (fs.length + sp)], .pointer (some ⟨b, 0, none⟩)] w fun e w' => e = .returned (.bool (wideB s fs)) ∧ Below w.heap.size w w' := by
  have HR := Lib.hid h; have HOK := Lib.hid hok
  obtain ⟨bx, hbx⟩ : ∃ b, b = w.heap.size := ⟨_, rfl⟩
  have S1 := ((St.start w).add (.cellAt b 0 (.int .i64 s)) hc).box hbx.symm #[.slice co fs.length (fs.length + sp)] 41
  have hv := mostL_bound hok
  rw [← varsC_cast] at hv
  clear h hok hc
  go_enter Try.func118, Try.ntmps118
  go_wp2_with fail
  rw [← hbx]
  refine S1.genC (z := 0) (by omega) ?_
  intro w1 z1 S
  clear S1 hbx
  have x0 := S.cellAt 0
  obtain ⟨y0, _⟩ := S.one 1
  obtain ⟨n, hnn⟩ : ∃ n, n = varsC fs := ⟨_, rfl⟩
  have CA := Lib.hid (fun d os => Calls.regrown_of (max112 fs p co sp (Go.Sort.grow (redrawn w1 d) os) (HR.out.kept (S.regrown d os).bel) hn HOK.out))
  rw [← varsC_cast, ← hnn] at CA
  have CB := Lib.hid (fun d os => Calls.regrown_of ((power80 s n 4096 (Go.Sort.grow (redrawn w1 d) os) (by omega) (by omega) (by omega)).mono (fun e w' ⟨h1, h2⟩ => ⟨h1, by rw [h2]; exact Below.refl _ _⟩)))
  obtain ⟨PW, hPW⟩ : ∃ PW, PW = powN s 4096 n 1 := ⟨_, rfl⟩
  rw [← hPW] at CB
  have HW := Lib.hid (show wideB s fs = decide ((4096 : Int) < (PW : Nat)) by rw [hPW, hnn]; rfl)
  clear hPW hnn
  have r0 := cell_regrown x0; have r1 := cell_regrown y0
  clear x0 y0
  refine wp_region_quiet_below (by kernel_rfl) (by kernel_rfl) ?_
  repeat (go_big_quiet_step (first | exact CA.out _ _ | exact CB.out _ _))
  refine wpQuiet_nil ?_
  intro _ hw'
  obtain ⟨⟨dq, osq⟩, hw''⟩ := hw'
  subst hw''
  have SE := Lib.hid (S.regrown dq osq).bel
  clear r0 r1 CA CB S
  go_wp2_with fail
  go_ret
  exact ⟨ret_bool HW.out.symm, SE.out⟩

set_option maxRecDepth 100000 in
set_option maxHeartbeats 4000000 in
theorem wide77 (ar : List Int) (cs : List (List Fc)) (s : Nat) (p q : Nat → Prop) (ao co : Option Addr) (ca cc : Nat) (w : World) (hs : s ≤ 4) (h : claimE.Row p w co cs) (hn : cs.length ≤ maxLen) (hok : ∀ c ∈ cs, codeF ar c = 0) :
    Calls Try.prog 66 #[.agg #[.slice ao ar.length ca, .slice co cs.length cc], .int .i64 s] w fun e w' => e = .returned (.int .i64 (idxP (wideB s) cs)) ∧ Below w.heap.size w w' := by
  have HR := Lib.hid h; have HOK := Lib.hid hok; have HN := Lib.hid hn
  obtain ⟨bx, hbx⟩ : ∃ b, b = w.heap.size := ⟨_, rfl⟩
  have S1 := ((St.start w).box hbx.symm #[.slice ao ar.length ca, .slice co cs.length cc] 25).box (b := bx + 1) (by simp [hbx]) #[.int .i64 s] 3
  clear h hok hn
  go_enter Try.func66, Try.ntmps66
  go_wp2_with fail
  rw [← hbx]
  refine S1.gen (z := 0) (by omega) ?_
  intro w1 z1 S
  clear S1 hbx
  refine (S.quiet (idxC 118 #[.pointer (some ⟨bx + 1, 0, none⟩)] (enters_of Try.func118 (by kernel_rfl) rfl) p co cs cc (wideB s) w1 HN.out (HR.out.kept S.bel) (fun i x k sp w2 hx hb hr hl => by
    have h0 := codeF_zero.1 (HOK.out x (List.mem_of_getElem? hx))
    exact wide111 s x p k sp (bx + 1) w2 hs (Below.cellOf hb (S.one 1).1) hr h0.1 (fun t ht => (h0.2 t ht).1)))).mono ?_
  rintro e w2 ⟨rfl, z2, S2⟩
  have SE := Lib.hid S2.bel
  clear S S2
  go_wp2_with fail
  go_ret
  exact ⟨rfl, SE.out⟩
end Go.Proofs.Ytlhnfdjidjgfgaa
namespace Go.Proofs.Ytlhnfdjidjgfgaa
open Go.RowKit Go.Shelf
set_option linter.unusedVariables false
set_option maxHeartbeats 400000

/-- the things of try number k -/
def dig (s : Nat) : Nat → Nat → List Int
  | 0, _ => []
  | n + 1, k => ((k % s : Nat) : Int) :: dig s n (k / s)
theorem dig_length {s : Nat} : ∀ (n k : Nat), (dig s n k).length = n
  | 0, _ => rfl
  | n + 1, k => by rw [dig, List.length_cons, dig_length n]
theorem dig_ok {s : Nat} (hs : 1 ≤ s) : ∀ (n k : Nat), ThOK s (dig s n k)
  | 0, _ => fun x hx => by cases hx
  | n + 1, k => fun x hx => by
    rw [dig] at hx
    rcases List.mem_cons.1 hx with rfl | hx
    · have := Nat.mod_lt k (show 0 < s by omega); omega
    · exact dig_ok hs n _ x hx
/-- each row of things comes up -/
theorem dig_all {s : Nat} : ∀ {th : List Int}, ThOK s th → ∃ k, k < s ^ th.length ∧ dig s th.length k = th
  | [], _ => ⟨0, by simp, rfl⟩
  | x :: r, h => by
    obtain ⟨k, hk, he⟩ := dig_all (th := r) (fun y hy => h y (List.mem_cons_of_mem _ hy))
    obtain ⟨h0, h1⟩ := h x (List.mem_cons_self ..)
    have hs : 0 < s := by omega
    refine ⟨x.toNat + s * k, ?_, ?_⟩
    · rw [List.length_cons, Nat.pow_succ, Nat.mul_comm _ s]
      have h2 : s * (k + 1) ≤ s * s ^ r.length := Nat.mul_le_mul_left s hk
      rw [Nat.mul_add, Nat.mul_one] at h2
      omega
    · rw [List.length_cons, dig, Nat.add_mul_mod_self_left, Nat.mod_eq_of_lt (by omega), Nat.add_mul_div_left _ _ hs, Nat.div_eq_of_lt (by omega), Nat.zero_add, he]
      congr 1; omega
noncomputable def factB (s : Nat) (tb : List (List Int)) (th : List Int) (f : Fc) : Bool := (decide (f.l.ev s tb th = f.r.ev s tb th)) != f.neg
noncomputable def trueF (s : Nat) (tb : List (List Int)) (fs : List Fc) : Bool := (List.range (powN s 4096 (varsC fs) 1)).all fun k => fs.any (factB s tb (dig s (varsC fs) k))
def tc (th : List Int) : Array Value := (th.map (Value.int .i64)).toArray
theorem make27 (n : Nat) (hn : n ≤ 1000) (w : World) : (Instr.makeSlice 22 (.int .i64 (n : Int)) (.int .i64 (n : Int))).run Try.prog w = .ok (.slice (some ⟨w.heap.size, 0, none⟩) n n) (w.alloc (.cells (tc (List.replicate n 0)) 3)) := by
  obtain ⟨i3, gi, gz0, gz1, gz2⟩ := info_parts infoI
  have h := run_makeSlice (P := Try.prog) w 22 3 i3 (.int .i64 0) Try.underlying22 gi gz0 .i64 .i64 (n : Int) (n : Int) (by omega) (Int.le_refl _) (by rw [gz1]; simp; omega) (by rw [gz2]; omega) (by omega)
  rw [gz1] at h
  have e : madeCells (Value.int .i64 0).cells (n * 1) = tc (List.replicate n 0) := by
    unfold madeCells tc Value.cells
    apply Array.ext
    · simp
    · intro i h1 h2
      simp [Nat.mod_one]
  rw [← e]
  simpa using h
theorem tc_set {th : List Int} {j : Nat} {x : Int} : (tc th).setIfInBounds j (.int .i64 x) = tc (th.set j x) := by
  unfold tc
  rw [List.setIfInBounds_toArray, List.map_set]
theorem St.setAt {w0 w : World} {l : List Fct} (S : St w0 w l) (i : Nat) {b : Nat} {cs : Array Value} {T : TypeId} (hi : Fct.at l i = Fct.box b cs T) (j : Nat) (u : Value) (h0 : w0.heap.size ≤ b) (hoff : offs b i l) :
    St w0 (w.setCell ⟨b, j, none⟩ u) (fset l i (.box b (cs.setIfInBounds j u) T)) :=
  S.put i hi h0 hoff (fun h => h.setCell (p := ⟨b, j, none⟩) h0 _)
    (fun c hc => Below.heap_setCell _ _ _ _ hc) (fun h => by simp [World.setCell, Array.getElem?_modify, h])
theorem row_tc {p : Nat → Prop} {w : World} {g : Nat} {th : List Int} (hp : p g) (h : w.heap[g]? = some (.cells (tc th) 3 (0, 0))) : intE.Row p w (some ⟨g, 0, none⟩) th := fun i x hi => by
  refine ⟨g, 0, [.int .i64 x], rfl, hp, fun j u hu => ?_, rfl⟩
  rcases j with _ | j
  · simp at hu; subst hu
    simp [World.cell?, h, tc, intE, hi]
  · simp at hu

set_option maxRecDepth 100000 in
set_option maxHeartbeats 4000000 in
theorem true114 (ar : List Int) (s : Nat) (tb : List (List Int)) (th : List Int) (hT : TabOK ar s tb) (hth : ThOK s th) (hl : th.length ≤ 1000000000) (f : Fc) (hs1 : f.l.sig ar) (hs2 : f.r.sig ar) (p q r : Nat → Prop) (k k2 to_ tho : Option Addr) (sp sp2 ct c bt bs : Nat) (w : World)
    (h0 : w.heap[bt]? = some (.cells #[.int .i64 s, .slice to_ tb.length (tb.length + ct)] 55 (0, 0))) (h1 : w.heap[bs]? = some (.cells #[.slice tho th.length c] 22 (0, 0))) (hrow : intsE.Row r w to_ tb) (hthr : intE.Row q w tho th)
    (t1 : TreeP p w (.agg #[.int .i64 f.l.head, .slice k f.l.kids.length (f.l.kids.length + sp)]) f.l) (t2 : TreeP p w (.agg #[.int .i64 f.r.head, .slice k2 f.r.kids.length (f.r.kids.length + sp2)]) f.r) :
    Calls Try.prog 121 #[.agg #[.bool f.neg, .int .i64 f.l.head, .slice k f.l.kids.length (f.l.kids.length + sp), .int .i64 f.r.head, .slice k2 f.r.kids.length (f.r.kids.length + sp2)], .pointer (some ⟨bt, 0, none⟩), .pointer (some ⟨bs, 0, none⟩)] w fun e w' => e = .returned (.bool (factB s tb th f)) ∧ Below w.heap.size w w' := by
  have HR := Lib.hid hrow; have HH := Lib.hid hthr; have T1 := Lib.hid t1; have T2 := Lib.hid t2
  obtain ⟨bx, hbx⟩ : ∃ b, b = w.heap.size := ⟨_, rfl⟩
  have S1 := (((St.start w).add (.box bt #[.int .i64 s, .slice to_ tb.length (tb.length + ct)] 55) h0).add (.box bs #[.slice tho th.length c] 22) h1).box hbx.symm #[.bool f.neg, .int .i64 f.l.head, .slice k f.l.kids.length (f.l.kids.length + sp), .int .i64 f.r.head, .slice k2 f.r.kids.length (f.r.kids.length + sp2)] 62
  clear h0 h1 hrow hthr t1 t2
  go_enter Try.func121, Try.ntmps121
  go_wp2_with fail
  rw [← hbx]
  refine S1.genC (z := 0) (by omega) ?_
  intro w1 z1 S
  clear S1 hbx
  obtain ⟨⟨x0, _⟩, x1, _⟩ := S.two 0
  obtain ⟨y0, _⟩ := S.one 1
  obtain ⟨c0, _⟩ := S.cell 2 0 rfl
  obtain ⟨c1, _⟩ := S.cell 2 1 rfl
  obtain ⟨c2, _⟩ := S.cell 2 2 rfl
  obtain ⟨c3, _⟩ := S.cell 2 3 rfl
  obtain ⟨c4, _⟩ := S.cell 2 4 rfl
  have CA := Lib.hid (fun d os => Calls.regrown_of (eval76 ar s tb th hT hth hl f.l hs1 r q _ to_ tho ct c (Go.Sort.grow (redrawn w1 d) os) (HR.out.kept (S.regrown d os).bel) (HH.out.kept (S.regrown d os).bel) (T1.out.kept (S.regrown d os).bel).at))
  have CB := Lib.hid (fun d os => Calls.regrown_of (eval76 ar s tb th hT hth hl f.r hs2 r q _ to_ tho ct c (Go.Sort.grow (redrawn w1 d) os) (HR.out.kept (S.regrown d os).bel) (HH.out.kept (S.regrown d os).bel) (T2.out.kept (S.regrown d os).bel).at))
  obtain ⟨V, hV⟩ : ∃ V, V = f.l.ev s tb th := ⟨_, rfl⟩
  obtain ⟨U, hU⟩ : ∃ U, U = f.r.ev s tb th := ⟨_, rfl⟩
  rw [← hV] at CA
  rw [← hU] at CB
  have HW := Lib.hid (show factB s tb th f = ((V == U) != f.neg) by unfold factB; rw [hV, hU]; rfl)
  have r0 := cell_regrown x0; have r1 := cell_regrown x1; have r2 := cell_regrown y0
  have e0 := cell_regrown c0; have e1 := cell_regrown c1; have e2 := cell_regrown c2; have e3 := cell_regrown c3; have e4 := cell_regrown c4
  clear x0 x1 y0 c0 c1 c2 c3 c4 hV hU
  refine wp_region_quiet_below (by kernel_rfl) (by kernel_rfl) ?_
  repeat (go_big_quiet_step (first | with_reducible exact CA.out _ _ | with_reducible exact CB.out _ _))
  refine wpQuiet_nil ?_
  intro _ hw'
  obtain ⟨⟨dq, osq⟩, hw''⟩ := hw'
  subst hw''
  have SE := Lib.hid (S.regrown dq osq).bel
  clear r0 r1 r2 e0 e1 e2 e3 e4 CA CB S
  go_wp2_with fail
  go_ret
  exact ⟨ret_bool HW.out.symm, SE.out⟩
end Go.Proofs.Ytlhnfdjidjgfgaa
namespace Go.Proofs.Ytlhnfdjidjgfgaa
open Go.RowKit Go.Shelf
set_option linter.unusedVariables false
set_option maxHeartbeats 400000

theorem dig_get {s : Nat} : ∀ (n k i : Nat), i < n → (dig s n k)[i]? = some ((k / s ^ i % s : Nat) : Int)
  | 0, k, i, h => by omega
  | n + 1, k, 0, _ => by rw [dig]; simp
  | n + 1, k, i + 1, h => by rw [dig, List.getElem?_cons_succ, dig_get n (k / s) i (by omega), Nat.div_div_eq_div_mul, Nat.pow_succ, Nat.mul_comm s]
/-- the things while try number k is written over an older one -/
def mid (s n k : Nat) (th : List Int) (i : Nat) : List Int := (dig s n k).take i ++ th.drop i
theorem mid_set {s n k i : Nat} {th : List Int} (hi : i < n) (hl : th.length = n) : (mid s n k th i).set i ((k / s ^ i % s : Nat) : Int) = mid s n k th (i + 1) := by
  unfold mid
  have hd : (dig s n k).length = n := dig_length n k
  have ht : ((dig s n k).take i).length = i := by simp [hd]; omega
  rw [List.set_append_right _ _ (by omega), ht, Nat.sub_self, List.drop_eq_getElem_cons (by omega), List.set_cons_zero]
  have hg : (dig s n k)[i]'(by omega) = ((k / s ^ i % s : Nat) : Int) := by
    have h := dig_get (s := s) n k i hi
    rw [List.getElem?_eq_getElem (by omega)] at h
    exact Option.some.inj h
  rw [List.take_succ_eq_append_getElem (by omega), hg, List.append_assoc, List.singleton_append]
theorem mid_end {s n k : Nat} {th : List Int} (hl : th.length = n) : mid s n k th n = dig s n k := by
  unfold mid
  rw [List.drop_eq_nil_of_le (by omega), List.append_nil, List.take_of_length_le (by rw [dig_length]; omega)]
theorem mid_length {s n k i : Nat} {th : List Int} (hi : i ≤ n) (hl : th.length = n) : (mid s n k th i).length = n := by
  unfold mid
  simp [dig_length, hl]; omega
theorem trueF_false {s : Nat} {tb : List (List Int)} {fs : List Fc} {k : Nat} (hk : k < powN s 4096 (varsC fs) 1) (h : fs.any (factB s tb (dig s (varsC fs) k)) = false) : trueF s tb fs = false := by
  unfold trueF
  rw [List.all_eq_false]
  exact ⟨k, by simpa using hk, by rw [h]; simp⟩
theorem trueF_true {s : Nat} {tb : List (List Int)} {fs : List Fc} (h : ∀ k, k < powN s 4096 (varsC fs) 1 → fs.any (factB s tb (dig s (varsC fs) k)) = true) : trueF s tb fs = true := by
  unfold trueF
  rw [List.all_eq_true]
  exact fun k hk => h k (by simpa using hk)

set_option maxRecDepth 100000 in
set_option maxHeartbeats 8000000 in
theorem true78 (ar : List Int) (s : Nat) (tb : List (List Int)) (hT : TabOK ar s tb) (fs : List Fc) (hok : codeF ar fs = 0) (p r : Nat → Prop) (to_ co : Option Addr) (ct sp : Nat) (w : World) (hrow : intsE.Row r w to_ tb) (h : factE.Row p w co fs) :
    Calls Try.prog 67 #[.agg #[.int .i64 s, .slice to_ tb.length (tb.length + ct)], .agg #[.slice co fs.length (fs.length + sp)]] w fun e w' => e = .returned (.bool (trueF s tb fs)) ∧ Below w.heap.size w w' := by
  have HC := Lib.hid (codeF_zero.1 hok)
  have HR := Lib.hid hrow; have HF := Lib.hid h; have HT := Lib.hid hT
  have hs14 : 1 ≤ s ∧ s ≤ 4 := ⟨hT.1, hT.2.1⟩
  obtain ⟨n, hnn⟩ : ∃ n, n = varsC fs := ⟨_, rfl⟩
  have hn8 : n ≤ 8 := by
    have := mostL_bound (l := treesF fs) (fun t ht => (HC.out.2 t ht).1)
    rw [← varsC_cast, ← hnn] at this; omega
  have HNV := Lib.hid hnn
  obtain ⟨bx, hbx⟩ : ∃ b, b = w.heap.size := ⟨_, rfl⟩
  have S1 := ((St.start w).box hbx.symm #[.int .i64 s, .slice to_ tb.length (tb.length + ct)] 55).box (b := bx + 1) (by simp [hbx]) #[.slice co fs.length (fs.length + sp)] 41
  have hsz : ((w.alloc (.cells #[.int .i64 s, .slice to_ tb.length (tb.length + ct)] 55)).alloc (.cells #[.slice co fs.length (fs.length + sp)] 41)).heap.size = bx + 2 := by simp [hbx]
  have hmk : ∀ W : World, (Instr.makeSlice 22 (.int .i64 (n : Int)) (.int .i64 (n : Int))).run Try.prog W = .ok (.slice (some ⟨W.heap.size, 0, none⟩) n n) (W.alloc (.cells (tc (List.replicate n 0)) 3)) := fun W => make27 n (by omega) W
  obtain ⟨y0, _⟩ := S1.one 1
  clear hrow h hT hok
  go_enter Try.func67, Try.ntmps67
  go_wp2_with fail
  rw [← hbx]
  refine S1.gen (z := bx + 2) (by omega) ?_
  intro w1 z1 S
  have HBX := Lib.hid hbx
  clear S1 hbx hsz y0
  refine (S.quiet (max112 fs p co sp w1 (HF.out.kept S.bel) HC.out.1 (fun t ht => (HC.out.2 t ht).1))).mono ?_
  rintro e w2 ⟨rfl, z2, S2⟩
  rw [← varsC_cast, ← hnn]
  clear S hnn
  have S3 := (S2.box rfl (tc (List.replicate n 0)) 3).box (b := w2.heap.size + 1) (by simp) #[.slice (some ⟨w2.heap.size, 0, none⟩) n n] 22
  obtain ⟨⟨x0, _⟩, x1, _⟩ := S3.two 0
  obtain ⟨v0, _⟩ := S3.one 3
  clear S2
  go_wp2_with fail
  refine S3.gen (z := w2.heap.size + 2) (by simp) ?_
  intro w4 z4 S
  obtain ⟨g, hg⟩ : ∃ g, g = w2.heap.size := ⟨_, rfl⟩
  have HG := Lib.hid (show bx + 2 ≤ g by omega)
  clear S3 x0 x1 v0 hmk
  rw [← hg] at S z4 ⊢
  clear hg
  refine (power80 s n 4096 w4 (by omega) (by omega) (by omega)).mono ?_
  rintro e w5 ⟨rfl, hw⟩
  have hw := hw.symm
  subst hw
  obtain ⟨PW, hPW⟩ : ∃ PW, PW = powN s 4096 n 1 := ⟨_, rfl⟩
  have hpb : PW ≤ 16384 := by rw [hPW]; exact powN_le hs14.2 (by omega) n 1 (by omega)
  rw [← hPW]
  have HPW := Lib.hid (show powN s 4096 (varsC fs) 1 = PW by rw [← HNV.out, hPW])
  clear hPW
  go_wp2_with fail
  refine S.genC (z := g + 2) z4 ?_
  intro w5 z5 S
  go_loopw [16] (fun i wr => ∃ (k : Nat) (th : List Int), k ≤ PW ∧ i = .int .i64 k ∧ th.length = n ∧ (∀ j, j < k → fs.any (factB s tb (dig s n j)) = true) ∧ g + 2 ≤ wr.heap.size ∧ St w wr [.box bx #[.int .i64 s, .slice to_ tb.length (tb.length + ct)] 55, .box (bx + 1) #[.slice co fs.length (fs.length + sp)] 41, .box g (tc th) 3, .box (g + 1) #[.slice (some ⟨g, 0, none⟩) n n] 22]) (fun i _ => PW - (intOf i).toNat)
  case atStart => exact ⟨0, List.replicate n 0, by omega, rfl, by simp, fun j hj => by omega, z5, S⟩
  case round =>
    clear S z5 w5
    obtain ⟨k, th, hk, rfl, hthl, hno, z6, S⟩ := hrel
    have HNO := Lib.hid hno
    have HTL := Lib.hid hthl
    clear hno hthl
    by_cases hlt : k < PW
    · have hlti : (k : Int) < (PW : Int) := by omega
      obtain ⟨v0, _⟩ := S.one 3
      obtain ⟨wv, hwv⟩ : ∃ W, W = wr := ⟨_, rfl⟩
      go_wp2_with fail
      rw [← hwv]
      rw [← hwv] at S z6 v0
      clear hwv v0
      go_loopw [6, 21] (fun kk i wr => ∃ (m c : Nat), m ≤ n ∧ i = .int .i64 m ∧ kk = .int .i64 c ∧ c = k / s ^ m ∧ g + 2 ≤ wr.heap.size ∧ St w wr [.box bx #[.int .i64 s, .slice to_ tb.length (tb.length + ct)] 55, .box (bx + 1) #[.slice co fs.length (fs.length + sp)] 41, .box g (tc (mid s n k th m)) 3, .box (g + 1) #[.slice (some ⟨g, 0, none⟩) n n] 22]) (fun _ i _ => n - (intOf i).toNat)
      case atStart => exact ⟨0, k, by omega, rfl, rfl, by simp, z6, by show St w _ [.box bx #[.int .i64 s, .slice to_ tb.length (tb.length + ct)] 55, .box (bx + 1) #[.slice co fs.length (fs.length + sp)] 41, .box g (tc (mid s n k th 0)) 3, .box (g + 1) #[.slice (some ⟨g, 0, none⟩) n n] 22]; rw [show mid s n k th 0 = th by simp [mid]]; exact S⟩
      case round =>
        clear S
        obtain ⟨m, c, hm, rfl, rfl, hc, z7, S⟩ := hrel
        by_cases hlt2 : m < n
        · have hlti2 : (m : Int) < (n : Int) := by omega
          have hcb : c ≤ 16384 := by rw [hc]; exact Nat.le_trans (Nat.div_le_self _ _) (by omega)
          have HCQ := Lib.hid hc
          have hs0 : ¬ s = 0 := by omega
          obtain ⟨X, hX⟩ : ∃ X, X = c % s := ⟨_, rfl⟩
          have hrem : Int.tmod (c : Int) (s : Int) = (X : Int) := by rw [hX]; rfl
          have HXV := Lib.hid (show X = k / s ^ m % s by rw [hX, hc])
          have hxs : X ≤ 4 := by have := Nat.mod_lt c (show 0 < s by omega); omega
          clear hc hX
          go_wp2_with fail
          have S := S.drew
          have hgl := S.lt 2
          have hmlt := HTL.out
          have hml := mid_length (s := s) (k := k) hm HTL.out
          obtain ⟨g0, g1⟩ := S.cell 2 m (v := .int .i64 ((mid s n k th m)[m]'(by omega))) (by simp [tc, hml, hlt2]) rfl
          refine wpG_region 7 (fun W => W.cell? ⟨g + 1, 0, none⟩ = some (.slice (some ⟨g, 0, none⟩) n n) ∧ W.cell? ⟨bx, 0, none⟩ = some (.int .i64 s)) (by kernel_rfl) ?_
          have HS := And.intro (S.one 3).1 (S.two 0).1.1
          refine wpG.take (i := 0) (by kernel_rfl) (by kernel_rfl) (by kernel_rfl) (by kernel_rfl) (by kernel_rfl) HS ?_
          intro oi ho
          simp only [List.getElem?_toArray, List.getElem?_cons_zero, Option.some.injEq] at ho
          subst ho
          refine ⟨?_, Or.inl ⟨by rfl, ?_⟩, fun _ _ _ h => h, ?_⟩
          rotate_left 1
          · intro W hW
            try dsimp only at hW
            go_simp
            try with_reducible rfl
          simp only [Act.put, List.setIfInBounds_toArray, List.set_cons_zero, List.set_cons_succ]
          refine wpG.take (i := 1) (by kernel_rfl) (by kernel_rfl) (by kernel_rfl) (by kernel_rfl) (by kernel_rfl) HS ?_
          intro oi ho
          simp only [List.getElem?_toArray, List.getElem?_cons_succ, List.getElem?_cons_zero, Option.some.injEq] at ho
          subst ho
          refine ⟨?_, Or.inl ⟨by rfl, ?_⟩, fun _ _ _ h => h, ?_⟩
          rotate_left 1
          · intro W hW
            try dsimp only at hW
            go_simp
            try with_reducible rfl
          simp only [Act.put, List.setIfInBounds_toArray, List.set_cons_zero, List.set_cons_succ]
          refine wpG.take (i := 2) (by kernel_rfl) (by kernel_rfl) (by kernel_rfl) (by kernel_rfl) (by kernel_rfl) HS ?_
          intro oi ho
          simp only [List.getElem?_toArray, List.getElem?_cons_succ, List.getElem?_cons_zero, Option.some.injEq] at ho
          subst ho
          refine ⟨?_, Or.inl ⟨by rfl, ?_⟩, fun _ _ _ h => h, ?_⟩
          rotate_left 1
          · intro W hW
            try dsimp only at hW
            go_simp
            try with_reducible rfl
          simp only [Act.put, List.setIfInBounds_toArray, List.set_cons_zero, List.set_cons_succ]
          refine wpG.take (i := 3) (by kernel_rfl) (by kernel_rfl) (by kernel_rfl) (by kernel_rfl) (by kernel_rfl) HS ?_
          intro oi ho
          simp only [List.getElem?_toArray, List.getElem?_cons_succ, List.getElem?_cons_zero, Option.some.injEq] at ho
          subst ho
          refine ⟨?_, Or.inl ⟨by rfl, ?_⟩, fun _ _ _ h => h, ?_⟩
          rotate_left 1
          · intro W hW
            try dsimp only at hW
            go_simp
            try with_reducible rfl
          simp only [Act.put, List.setIfInBounds_toArray, List.set_cons_zero, List.set_cons_succ]
          refine wpG.take (i := 4) (by kernel_rfl) (by kernel_rfl) (by kernel_rfl) (by kernel_rfl) (by kernel_rfl) HS ?_
          intro oi ho
          simp only [List.getElem?_toArray, List.getElem?_cons_succ, List.getElem?_cons_zero, Option.some.injEq] at ho
          subst ho
          refine ⟨?_, Or.inl ⟨by rfl, ?_⟩, fun _ _ _ h => h, ?_⟩
          rotate_left 1
          · intro W hW
            try dsimp only at hW
            go_simp
            try with_reducible rfl
          simp only [Act.put, List.setIfInBounds_toArray, List.set_cons_zero, List.set_cons_succ]
          refine wpG.take (i := 5) (by kernel_rfl) (by kernel_rfl) (by kernel_rfl) (by kernel_rfl) (by kernel_rfl) HS ?_
          intro oi ho
          simp only [List.getElem?_toArray, List.getElem?_cons_succ, List.getElem?_cons_zero, Option.some.injEq] at ho
          subst ho
          refine ⟨?_, Or.inl ⟨by rfl, ?_⟩, fun _ _ _ h => h, ?_⟩
          rotate_left 1
          · intro W hW
            try dsimp only at hW
            go_simp
            try with_reducible rfl
          simp only [Act.put, List.setIfInBounds_toArray, List.set_cons_zero, List.set_cons_succ]
          refine wpG.one (i := 6) (by kernel_rfl) ?_
          intro oi ho
          simp only [List.getElem?_toArray, List.getElem?_cons_succ, List.getElem?_cons_zero, Option.some.injEq] at ho
          subst ho
          intro K hK
          have HK := Lib.hid hK
          have HSH := Lib.hid HS
          clear hK HS
          go_simp
          refine HK.out _ _ (fun _ => HSH.out) ?_
          have HS := HSH.out
          try simp only [Act.put, List.setIfInBounds_toArray, List.set_cons_zero, List.set_cons_succ]
          refine wpG.one (i := 7) (by kernel_rfl) ?_
          intro oi ho
          simp only [List.getElem?_toArray, List.getElem?_cons_succ, List.getElem?_cons_zero, Option.some.injEq] at ho
          subst ho
          intro K hK
          have HK := Lib.hid hK
          have HSH := Lib.hid HS
          clear hK HS
          go_simp
          refine HK.out _ _ (fun h => absurd rfl h) ?_
          try simp only [Act.put, List.setIfInBounds_toArray, List.set_cons_zero, List.set_cons_succ]
          refine wpG.done (by kernel_rfl) ?_
          have SN := S.setAt 2 rfl m (.int .i64 (X : Int)) (by have := HG.out; have := HBX.out; omega) (by have := HG.out; simp only [offs, offAll, Fct.box, and_true]; omega)
          have he : (tc (mid s n k th m)).setIfInBounds m (.int .i64 (X : Int)) = tc (mid s n k th (m + 1)) := by rw [tc_set, HXV.out, mid_set hlt2 HTL.out]
          rw [he] at SN
          refine (show St w _ [.box bx #[.int .i64 s, .slice to_ tb.length (tb.length + ct)] 55, .box (bx + 1) #[.slice co fs.length (fs.length + sp)] 41, .box g (tc (mid s n k th (m + 1))) 3, .box (g + 1) #[.slice (some ⟨g, 0, none⟩) n n] 22] from SN).genX (z := g + 2) (by simp; exact z7) ?_
          intro w8 z8 S8
          clear S SN g0 g1 hgl hml
          obtain ⟨⟨x0, _⟩, x1, _⟩ := S8.two 0
          obtain ⟨c2, hc2⟩ : ∃ c2, c2 = c / s := ⟨_, rfl⟩
          have hquo : Int.tdiv (c : Int) (s : Int) = (c2 : Int) := by rw [hc2]; rfl
          have HC2 := Lib.hid (show c2 = k / s ^ (m + 1) by rw [hc2, HCQ.out, Nat.div_div_eq_div_mul, Nat.pow_succ])
          have hc2b : c2 ≤ 16384 := by rw [hc2]; exact Nat.le_trans (Nat.div_le_self _ _) hcb
          clear hc2
          go_wp2_with fail
          go_roundw
          case rel => exact ⟨m + 1, c2, by omega, by go_num, rfl, HC2.out, z8, S8⟩
          case measure => simp [intOf] <;> omega
        · obtain rfl : m = n := by omega
          rw [mid_end HTL.out] at S
          obtain ⟨y0, _⟩ := S.one 1
          clear hc
          go_wp2_with fail
          refine (S.quiet (contF 121 #[.pointer (some ⟨bx, 0, none⟩), .pointer (some ⟨g + 1, 0, none⟩)] (enters_of Try.func121 (by kernel_rfl) rfl) p co fs (fs.length + sp) (factB s tb (dig s m k)) wr (by have := HC.out.1; unfold maxLen; omega) (HF.out.kept S.bel) (fun i x kk q1 k2 q2 w1 hx hb t1 t2 => by
            have hi := (List.getElem?_eq_some_iff.1 hx).1
            have hxe : fs[i] = x := (List.getElem?_eq_some_iff.1 hx).2
            have hp := treesF_pair hi
            rw [hxe] at hp
            exact true114 ar s tb (dig s m k) HT.out (dig_ok hs14.1 m k) (by rw [dig_length]; omega) x (HC.out.2 _ (List.mem_of_getElem? hp.1)).2 (HC.out.2 _ (List.mem_of_getElem? hp.2)).2 p (fun b => b = g) r kk k2 to_ (some ⟨g, 0, none⟩) q1 q2 ct m bx (g + 1) w1
              (Below.heapAt hb (S.block 0)) (by rw [dig_length]; exact Below.heapAt hb (S.block 3)) (HR.out.kept (Below.step S.bel hb)) (row_tc rfl (Below.heapAt hb (S.block 2))) t1 t2))).mono ?_
          rintro e w9 ⟨rfl, z9, S9⟩
          have hz9 : g + 2 ≤ w9.heap.size := by omega
          clear S y0 z9
          cases hany : fs.any (factB s tb (dig s m k)) with
          | true =>
            have HN := Lib.hid (show ∀ j, j < k + 1 → fs.any (factB s tb (dig s m j)) = true from fun j hj => by
              rcases Nat.lt_succ_iff_lt_or_eq.1 hj with h | rfl
              · exact HNO.out j h
              · exact hany)
            have HDL := Lib.hid (dig_length (s := s) m k)
            clear hany
            go_wp2_with fail
            go_roundw
            case rel => exact ⟨k + 1, dig s m k, by omega, by go_num, HDL.out, HN.out, hz9, S9⟩
            case measure => simp [intOf] <;> omega
          | false =>
            have HFI := Lib.hid (show trueF s tb fs = false from trueF_false (k := k) (by rw [HPW.out]; exact hlt) (by rw [← HNV.out]; exact hany))
            have SE := Lib.hid S9.bel
            clear hany S9
            go_wp2_with fail
            go_ret
            exact ⟨ret_bool HFI.out.symm, SE.out⟩
    · obtain rfl : k = PW := by omega
      have HFI := Lib.hid (show trueF s tb fs = true from trueF_true (fun j hj => by rw [HPW.out] at hj; rw [← HNV.out]; exact HNO.out j hj))
      have SE := Lib.hid S.bel
      clear S
      go_wp2_with fail
      go_ret
      exact ⟨ret_bool HFI.out.symm, SE.out⟩
end Go.Proofs.Ytlhnfdjidjgfgaa
namespace Go.Proofs.Ytlhnfdjidjgfgaa
open Go.RowKit Go.Shelf
set_option linter.unusedVariables false
set_option maxHeartbeats 400000

def boolE : Elt Bool where
  ty := 4
  n := 1
  is p w cs a := cs = [.bool a]
  pos := by omega
  len := fun e => by rw [e]; rfl
  one := fun e u hu => by rw [e] at hu; simp at hu; subst hu; rfl
  keep := fun hk e => e
theorem Elt.Row.bool {p : Nat → Prop} {w : World} {ao : Option Addr} {cs : List Bool} (h : boolE.Row p w ao cs) {i : Nat} (hi : i < cs.length) : ∃ b off, ao = some ⟨b, off, none⟩ ∧ p b ∧ w.cell? ⟨b, off + i, none⟩ = some (.bool cs[i]) := by
  obtain ⟨b, off, c, e, hp, hc, rfl⟩ := h i cs[i] (List.getElem?_eq_getElem hi)
  exact ⟨b, off, e, hp, by have := hc 0 _ rfl; simpa [boolE] using this⟩
theorem infoB : (Try.prog.info? 4).map (fun i => (i.zero, i.size, i.bytes)) = some (some (.bool false), 1, 1) := by kernel_rfl
noncomputable def holdsF (ar : List Int) (cs : List (List Fc)) (sz : Int) (tb : List (List Int)) : List Bool × (Int × Int) :=
  if (tabF ar cs sz tb).1 ≠ 0 then ([], tabF ar cs sz tb) else if 0 ≤ idxP (wideB sz.toNat) cs then ([], (10, idxP (wideB sz.toNat) cs)) else (cs.map (trueF sz.toNat tb), (0, 0))
def HoldsP (r : List Bool × (Int × Int)) (w : World) (e : Ending) (w' : World) : Prop :=
  ∃ ro sp, e = .returned (.tuple #[.slice ro r.1.length (r.1.length + sp), FV r.2]) ∧ boolE.Row (fun b => w.heap.size ≤ b) w' ro r.1 ∧ Below w.heap.size w w'
theorem ret_zf {P : Program} {fn : Func} {R : Ending → World → Prop} {a : Act} {w : World} (z p q : Value) (c : Nat) (T' : TypeId) (hc : w.heap[c]? = some (.cells #[p, q] T' (0, 0)))
    (hres : ∀ w' : World, w'.cell? ⟨c, 0, none⟩ = some p → w'.cell? ⟨c, 1, none⟩ = some q → (results fn a.tmps).run P w' = .ok (.tuple #[z, .agg #[p, q]]) w') (hd : a.defers = [])
    (hR : R (.returned (.tuple #[z, .agg #[p, q]])) w) : bodyPost P fn R .ret a w := bodyPost_ret (hres w (box2 hc).1.1 (box2 hc).2.1) hd hR

set_option maxRecDepth 100000 in
set_option maxHeartbeats 8000000 in
theorem holds25 (ar : List Int) (cs : List (List Fc)) (sz : Int) (tb : List (List Int)) (p q r : Nat → Prop) (ao co to_ : Option Addr) (ca cc ct : Nat) (w : World) (ha : intE.Row q w ao ar) (h : claimE.Row p w co cs) (ht : intsE.Row r w to_ tb) (hna : ar.length ≤ maxLen) (hn : cs.length ≤ maxLen) (hnt : tb.length ≤ maxLen) :
    Calls Try.prog 25 #[.agg #[.slice ao ar.length ca, .slice co cs.length cc], .agg #[.int .i64 sz, .slice to_ tb.length (tb.length + ct)]] w (HoldsP (holdsF ar cs sz tb) w) := by
  have HC := Lib.hid h; have HA := Lib.hid ha; have HNA := Lib.hid hna; have HNC := Lib.hid hn; have HT := Lib.hid ht; have HNT := Lib.hid hnt
  obtain ⟨iB, gi, gz0, gz1, gz2⟩ := info_parts infoB
  obtain ⟨bx, hbx⟩ : ∃ b, b = w.heap.size := ⟨_, rfl⟩
  have S1 := (((St.start w).box hbx.symm #[.slice ao ar.length ca, .slice co cs.length cc] 25).box (b := bx + 1) (by simp [hbx]) #[.int .i64 sz, .slice to_ tb.length (tb.length + ct)] 55).box (b := bx + 2) (by simp [hbx]) #[.int .i64 0, .int .i64 0] 29
  have hsz1 : (((w.alloc (.cells #[.slice ao ar.length ca, .slice co cs.length cc] 25)).alloc (.cells #[.int .i64 sz, .slice to_ tb.length (tb.length + ct)] 55)).alloc (.cells #[.int .i64 0, .int .i64 0] 29)).heap.size = bx + 3 := by simp [hbx]
  clear h ha hn hna ht hnt
  obtain ⟨⟨x0, _⟩, x1, _⟩ := S1.two 0
  obtain ⟨⟨y0, _⟩, y1, _⟩ := S1.two 1
  go_enter Try.func25, Try.ntmps25
  go_wp2_with fail
  rw [← hbx]
  refine S1.gen (z := bx + 3) (by omega) ?_
  intro w1 z1 S
  have HBX := Lib.hid hbx
  clear S1 hbx hsz1 x0 x1 y0 y1
  refine (S.faultF (tab26 ar cs sz tb p q r ao co to_ ca cc ct w1 (HA.out.kept S.bel) (HC.out.kept S.bel) (HT.out.kept S.bel) HNA.out HNC.out HNT.out)).mono ?_
  rintro e w2 ⟨C, D, rfl, HCD, z2, S2⟩
  clear S
  obtain ⟨b6, hb6⟩ : ∃ b, b = w2.heap.size := ⟨_, rfl⟩
  have S3 := S2.box hb6.symm #[.int .i64 C, .int .i64 D] 29
  have z3 : b6 + 1 ≤ (w2.alloc (.cells #[.int .i64 C, .int .i64 D] 29)).heap.size := by simp [hb6]
  have HB6 := Lib.hid (show bx + 3 ≤ b6 by omega)
  clear S2
  by_cases hC : C = 0
  · have hcb : (C != 0) = false := by simp [hC]
    have HZ := Lib.hid (tabF_zero (show (tabF ar cs sz tb).1 = 0 by rw [HCD.out]; exact hC))
    obtain ⟨s, hs, hT⟩ := HZ.out.2.2
    subst hs
    have HTT := Lib.hid hT
    have hs4 : s ≤ 4 := hT.2.1
    have HLZ := Lib.hid (loreF_zero HZ.out.2.1)
    have hc60 : cs.length ≤ 60 := HLZ.out.2.2.1
    have HF := Lib.hid (show holdsF ar cs s tb = if 0 ≤ idxP (wideB s) cs then ([], (10, idxP (wideB s) cs)) else (cs.map (trueF s tb), (0, 0)) by unfold holdsF; rw [if_neg (by rw [HCD.out]; simpa using hC)]; rfl)
    obtain ⟨⟨x0, _⟩, x1, _⟩ := S3.two 0
    obtain ⟨⟨y0, _⟩, y1, _⟩ := S3.two 1
    clear hC hT
    go_wp2_with fail
    rw [← hb6]
    refine S3.gen (z := bx + 3) (by have := HB6.out; omega) ?_
    intro w4 z4 S
    clear S3 z3 hb6 x0 x1 y0 y1
    refine (S.quiet (wide77 ar cs s p q ao co ca cc w4 hs4 (HC.out.kept S.bel) HNC.out HLZ.out.2.2.2.2)).mono ?_
    rintro e w5 ⟨rfl, z5, S5⟩
    clear S
    obtain ⟨I, hI⟩ : ∃ I, I = idxP (wideB s) cs := ⟨_, rfl⟩
    rw [← hI]
    rw [← hI] at HF
    clear hI
    by_cases h0 : 0 ≤ I
    · have HF2 := Lib.hid (show holdsF ar cs s tb = ([], (10, I)) by rw [HF.out, if_pos h0])
      obtain ⟨⟨y0, y1⟩, y2, y3⟩ := S5.two 2
      have hl := S5.lt 2
      have SB := Lib.hid S5
      clear S5
      go_wp2_with fail
      refine ret_zf (.slice none 0 0) (.int .i64 10) (.int .i64 I) (bx + 2) 29 (box2_set (SB.out.block 2) _ _) (fun w' q0 q1 => by simp [results, Try.results25, go_sem, q0, q1]) rfl ?_
      have hx := HBX.out
      rw [HF2.out]
      exact ⟨none, 0, rfl, Elt.Row.nil, (SB.out.bel.setCell (p := ⟨bx + 2, 0, none⟩) (by show w.heap.size ≤ bx + 2; omega) _).setCell (p := ⟨bx + 2, 1, none⟩) (by show w.heap.size ≤ bx + 2; omega) _⟩
    · have HF2 := Lib.hid (show holdsF ar cs s tb = (cs.map (trueF s tb), (0, 0)) by rw [HF.out, if_neg h0])
      obtain ⟨⟨x0, _⟩, x1, _⟩ := S5.two 0
      go_wp2_with fail
      refine S5.genC (z := bx + 3) (by omega) ?_
      intro w6 z6 S
      have S := ((S.pick [0, 1, 2]).add (.owns boolE (bx + 3) (fun b => bx + 3 ≤ b) (.slice none 0 0) []) (Elt.Own.nil _ _ _ _))
      clear S5 x0 x1
      go_loopw [8, 29] (fun o i wr => ∃ k : Nat, k ≤ cs.length ∧ i = .int .i64 k ∧ bx + 3 ≤ wr.heap.size ∧ St w wr [.box bx #[.slice ao ar.length ca, .slice co cs.length cc] 25, .box (bx + 1) #[.int .i64 s, .slice to_ tb.length (tb.length + ct)] 55, .box (bx + 2) #[.int .i64 0, .int .i64 0] 29, .owns boolE (bx + 3) (fun b => bx + 3 ≤ b) o ((cs.map (trueF s tb)).take k)]) (fun _ i _ => cs.length - (intOf i).toNat)
      case atStart => exact ⟨0, by omega, rfl, z6, S⟩
      case round =>
        clear S
        obtain ⟨k, hk, rfl, z7, S⟩ := hrel
        by_cases hlt : k < cs.length
        · have hlti : (k : Int) < (cs.length : Int) := by omega
          have HTK := Lib.hid (show (cs.map (trueF s tb)).take (k + 1) = (cs.map (trueF s tb)).take k ++ [trueF s tb cs[k]] by rw [List.take_succ_eq_append_getElem (by simpa using hlt), List.getElem_map])
          have hlk : ((cs.map (trueF s tb)).take k).length = k := by simp; omega
          obtain ⟨b, off, kc, sc, rfl, hpb, c0, h1, h2⟩ := (HC.out.kept S.bel).claim hlt
          have H1 := Lib.hid (h1.kept ((Below.refl _ wr).alloc (Nat.le_refl _) (.cells #[.slice kc cs[k].length (cs[k].length + sc)] 41)))
          have HCO := Lib.hid (HLZ.out.2.2.2.2 cs[k] (List.getElem_mem hlt))
          obtain ⟨bc, hbc⟩ : ∃ b, b = wr.heap.size := ⟨_, rfl⟩
          have S3 := S.box hbc.symm #[.slice kc cs[k].length (cs[k].length + sc)] 41
          have hz : bx + 3 ≤ (wr.alloc (.cells #[.slice kc cs[k].length (cs[k].length + sc)] 41)).heap.size := by simp; omega
          obtain ⟨⟨x0, _⟩, x1, _⟩ := S3.two 1
          clear S h1 h2
          go_wp2_with fail
          rw [← hbc]
          refine (S3.quiet (true78 ar s tb HTT.out cs[k] HCO.out p r to_ kc ct sc _ (HT.out.kept S3.bel) H1.out)).mono ?_
          rintro e w8 ⟨rfl, z8, S8⟩
          have S9 : St w w8 [.box bx #[.slice ao ar.length ca, .slice (some ⟨b, off, none⟩) cs.length cc] 25, .box (bx + 1) #[.int .i64 s, .slice to_ tb.length (tb.length + ct)] 55, .box (bx + 2) #[.int .i64 0, .int .i64 0] 29, .owns boolE (bx + 3) (fun b => bx + 3 ≤ b) _ ((cs.map (trueF s tb)).take k)] := S8.pick [0, 1, 2, 3]
          have hz8 : bx + 3 ≤ w8.heap.size := by omega
          clear S3 S8 x0 x1 c0 hbc z8 H1
          obtain ⟨X, hX⟩ : ∃ X, X = trueF s tb cs[k] := ⟨_, rfl⟩
          rw [← hX]
          rw [← hX] at HTK
          clear hX
          go_wp2_with (at_builtin; refine wpList_app rfl (.tmp 33) (.tmp 37) 56 rfl boolE S9 3 rfl (x := X) (q := fun _ => False) (p' := fun b => bx + 3 ≤ b) rfl Try.underlying56 gi gz0 gz1 gz2 rfl rfl ?v1 ?v2 ?c1 ?c2 ?c3 ?c4 ?c5 ?c6 ?c7 ?_)
          case v1 => rfl
          case v2 => rfl
          case c1 => rw [hlk]; unfold maxLen; omega
          case c2 => rw [hlk]; omega
          case c3 => omega
          case c4 => have := HBX.out; omega
          case c5 => intro b h1 h2; simp only [offs, offAll, Fct.box, and_true]; omega
          case c6 => intro b h1; exact h1.elim
          case c7 => intro b h1; rcases h1 with h1 | h1; exact h1; exact h1.elim
          intro gg cap w9 S10 hs10 hgg _
          rw [← HTK.out] at S10
          have hz10 : bx + 3 ≤ w9.heap.size := by omega
          have S10 : St w w9 [.box bx #[.slice ao ar.length ca, .slice (some ⟨b, off, none⟩) cs.length cc] 25, .box (bx + 1) #[.int .i64 s, .slice to_ tb.length (tb.length + ct)] 55, .box (bx + 2) #[.int .i64 0, .int .i64 0] 29, .owns boolE (bx + 3) (fun b => bx + 3 ≤ b) _ ((cs.map (trueF s tb)).take (k + 1))] := S10
          go_wp2_with fail
          go_roundw
          case rel => exact ⟨k + 1, by omega, by go_num, hz10, S10⟩
          case measure => simp [intOf] <;> omega
        · obtain rfl : k = cs.length := by omega
          have HO := Lib.hid (S.owns boolE 3)
          rw [List.take_of_length_le (by simp)] at HO
          obtain ⟨ro, spo, rfl, hrow, hml⟩ := HO.out.row (fun b h => by omega)
          have HROW := Lib.hid hrow
          obtain ⟨⟨y0, y1⟩, y2, y3⟩ := S.two 2
          have hl := S.lt 2
          have SB := Lib.hid S
          clear S hrow HO
          go_wp2_with fail
          refine ret_zf (.slice ro (cs.map (trueF s tb)).length ((cs.map (trueF s tb)).length + spo)) (.int .i64 0) (.int .i64 0) (bx + 2) 29 (box2_set (SB.out.block 2) _ _) (fun w' q0 q1 => by simp [results, Try.results25, go_sem, q0, q1]) rfl ?_
          have hx := HBX.out
          rw [HF2.out]
          exact ⟨ro, spo, rfl, HROW.out.keep (fun b h1 h2 => ⟨(Below.heap_setCell _ _ _ _ (by show b ≠ bx + 2; omega)).trans (Below.heap_setCell _ _ _ _ (by show b ≠ bx + 2; omega)), by omega⟩), (SB.out.bel.setCell (p := ⟨bx + 2, 0, none⟩) (by show w.heap.size ≤ bx + 2; omega) _).setCell (p := ⟨bx + 2, 1, none⟩) (by show w.heap.size ≤ bx + 2; omega) _⟩
  · have hcb : (C != 0) = true := by simp [hC]
    have HF := Lib.hid (show holdsF ar cs sz tb = ([], (C, D)) by unfold holdsF; rw [if_pos (by rw [HCD.out]; exact hC), HCD.out])
    obtain ⟨⟨x0, _⟩, x1, _⟩ := S3.two 3
    have hl3 := S3.lt 3
    clear hC
    go_wp2_with fail
    rw [← hb6]
    refine S3.genC (z := b6 + 1) z3 ?_
    intro w3 z4 S
    clear S3 x0 x1 hl3 z3 hb6
    obtain ⟨⟨y0, y1⟩, y2, y3⟩ := S.two 2
    have hl2 := S.lt 2
    obtain ⟨⟨x0, _⟩, x1, _⟩ := S.two 3
    have SD := S.drew
    obtain ⟨⟨y4, y5⟩, y6, y7⟩ := SD.two 2
    obtain ⟨⟨x4, _⟩, x5, _⟩ := SD.two 3
    have hl5 := SD.lt 2
    have n1 : ¬ b6 = bx + 2 := by have := HB6.out; omega
    have n3 : ¬ bx + 2 = b6 := by have := HB6.out; omega
    have SB := Lib.hid SD
    clear S SD
    go_region
    all_goals
      go_wp2_with fail
      refine ret_zf (.slice none 0 0) (.int .i64 C) (.int .i64 D) (bx + 2) 29 (box2_set (SB.out.block 2) _ _) (fun w' q0 q1 => by simp [results, Try.results25, go_sem, q0, q1]) rfl ?_
      have hx := HBX.out
      rw [HF.out]
      exact ⟨none, 0, rfl, Elt.Row.nil, (SB.out.bel.setCell (p := ⟨bx + 2, 0, none⟩) (by show w.heap.size ≤ bx + 2; omega) _).setCell (p := ⟨bx + 2, 1, none⟩) (by show w.heap.size ≤ bx + 2; omega) _⟩
end Go.Proofs.Ytlhnfdjidjgfgaa
