/-
  Walk: the law TreePlaces.
-/
import Derived.Test.YtcckgfgobakphaaProg
import Derived.Test.YtcckgfgobakphaaBase
import Derived.Test.YtcckgfgobakphaaT27
import Derived.Test.YtcckgfgobakphaaT32
import Derived.Test.YtcckgfgobakphaaP5
import Derived.Test.YtcckgfgobakphaaSt
import Derived.Deep.DeepCutAuto
import Derived.Laws.AppendOwnNone
namespace Go.Proofs.Ytcckgfgobakphaa
open Go.RowKit Go.Shelf
set_option linter.unusedVariables false
set_option maxHeartbeats 400000

/-- append to a row of the call's own, the other slice nil or not -/
theorem wpList_append_own_any {P : Program} {w : World} {ops : Array Oper} {rest : List Oper} {o : Oper} {a : Act} {Q : Exit → Act → World → Prop} (hgd : o.guard = none) (s x : Operand) (t : TypeId)
    (ho : o.op = .call { callee := .builtin .append, args := #[s, x], argTypes := #[t, t] })
    (base : Nat) (e : TypeId) (i : TypeInfo) (z : Value) (size bytes : Nat) (ht : P.underlying t = some (.slice e)) (hi : P.info? e = some i) (hz : i.zero = some z)
    (hsize : i.size = size) (hby : i.bytes = bytes) (hzs : z.cells.size = size) (hsz : 0 < size)
    (v : Value) (n : Nat) (xs : List Value) (hs : a.eval s = v) (hown : w.ownsRow base e size v n xs)
    (xo : Option Addr) (m c : Nat) (news : List Value) (hx : a.eval x = .slice xo m c) (hnone : xo = none → m = 0 ∧ c = 0) (hl : news.length = m * size) (hnews : ∀ ad, xo = some ad → ∀ j u, news[j]? = some u → w.cell? (ad.add j) = some u) (h1 : ∀ u ∈ news, u.oneCell' = true)
    (h63 : n + m ≤ maxLen) (hbytes : (n + m) * bytes ≤ 140737488355328) (hbase : base ≤ w.heap.size)
    (h : ∀ v' w', w'.ownsRow base e size v' (n + m) (xs ++ news) → w.grownBy w' v.ownBlock → wpList P ops Q rest (a.put o.dst v') w') : wpList P ops Q (o :: rest) a w := by
  cases xo with
  | some ad => exact wpList_append_own w hgd s x t ho base e i z size bytes ht hi hz hsize hby hzs hsz v n xs hs hown ad m c news hx hl (hnews ad rfl) h1 h63 hbytes hbase fun v' w' h2 h3 _ => h v' w' h2 h3
  | none =>
    obtain ⟨rfl, rfl⟩ := hnone rfl
    obtain rfl : news = [] := List.eq_nil_of_length_eq_zero (by simpa using hl)
    exact wpList_append_own_none hgd s x t ho base e i size ht hi v n xs hs hown hx (h v w (by simpa using hown) (World.grownBy.refl _ _))
theorem wp_append_own_any {P : Program} {w : World} {o : Oper} {a : Act} {K : Act → World → Prop} {Q : Exit → Act → World → Prop} (s x : Operand) (t : TypeId)
    (ho : o.op = .call { callee := .builtin .append, args := #[s, x], argTypes := #[t, t] })
    (base : Nat) (e : TypeId) (i : TypeInfo) (z : Value) (size bytes : Nat) (ht : P.underlying t = some (.slice e)) (hi : P.info? e = some i) (hz : i.zero = some z)
    (hsize : i.size = size) (hby : i.bytes = bytes) (hzs : z.cells.size = size) (hsz : 0 < size)
    (v : Value) (n : Nat) (xs : List Value) (hs : a.eval s = v) (hown : w.ownsRow base e size v n xs)
    (xo : Option Addr) (m c : Nat) (news : List Value) (hx : a.eval x = .slice xo m c) (hnone : xo = none → m = 0 ∧ c = 0) (hl : news.length = m * size) (hnews : ∀ ad, xo = some ad → ∀ j u, news[j]? = some u → w.cell? (ad.add j) = some u) (h1 : ∀ u ∈ news, u.oneCell' = true)
    (h63 : n + m ≤ maxLen) (hbytes : (n + m) * bytes ≤ 140737488355328) (hbase : base ≤ w.heap.size)
    (h : ∀ v' w', w'.ownsRow base e size v' (n + m) (xs ++ news) → w.grownBy w' v.ownBlock → K (a.put o.dst v') w') : o.wp P a w K Q := by
  cases xo with
  | some ad => exact wp_append_own w s x t ho base e i z size bytes ht hi hz hsize hby hzs hsz v n xs hs hown ad m c news hx hl (hnews ad rfl) h1 h63 hbytes hbase fun v' w' h2 h3 _ => h v' w' h2 h3
  | none =>
    obtain ⟨rfl, rfl⟩ := hnone rfl
    obtain rfl : news = [] := List.eq_nil_of_length_eq_zero (by simpa using hl)
    have hrun := run_append_owned_none (P := P) (w := w) base t o.type e i size ht hi v n xs hown
    unfold Oper.wp
    simp [execOp, ho, resolve, invoke, builtin, hs, hx, hrun, Result.andThen]
    exact h v w (by simpa using hown) (World.grownBy.refl _ _)
theorem CellsAt.news {w : World} {ao : Option Addr} {l : List Int} (h : CellsAt w ao l.length (fun j => .int .i64 (gI l j))) : ∀ ad, ao = some ad → ∀ j u, (l.map (Value.int .i64))[j]? = some u → w.cell? (ad.add j) = some u := fun ad he j u hu => by
  have hj : j < l.length := by
    have := (List.getElem?_eq_some_iff.1 hu).1; simpa using this
  obtain ⟨b, off, e, hc⟩ := h j hj
  rw [he] at e
  obtain rfl := Option.some.inj e
  rw [Addr.add_lit, hc]
  rw [List.getElem?_map, List.getElem?_eq_getElem hj] at hu
  simp only [Option.map_some, Option.some.injEq] at hu
  rw [← hu]
  show some (Value.int .i64 (gI l j)) = some (Value.int .i64 l[j])
  rw [gI_get hj]
theorem ints_one (l : List Int) : ∀ u ∈ l.map (Value.int .i64), u.oneCell' = true := fun u hu => by
  simp at hu; obtain ⟨x, _, rfl⟩ := hu; rfl

structure PlaceR (w8 : World) (N b9 : Nat) (tv bv mv : Value) (pl ml : List Int) (X : T) (xc xa : Int) (c0 c1 c2 c3 c4 c5 c6 c7 c8 c9 c10 : Bool) (s94 s95 s96 s97 s98 s93 s99 s100 s17 : Value) (W : World) : Prop where
  bel : Below b9 w8 W
  ob : ∀ q, bv.ownBlock = some q → N ≤ q ∧ q < W.heap.size
  l0 : c0 = true → s94 = tv
  l1 : c1 = true → s95 = bv
  l2 : c2 = true → s96 = mv
  own : c3 = false → W.ownsRow N 3 1 bv pl.length (pl.map (Value.int .i64))
  l3 : c3 = true → c4 = false → IntsAt W s97 (pl ++ ml)
  l4 : c4 = true → ∃ xk xsp, s98 = .tuple #[.agg #[.int .i64 X.head, .slice xk X.kids.length (X.kids.length + xsp)], .agg #[.int .i64 xc, .int .i64 xa]] ∧ (c6 = true → s99 = .agg #[.int .i64 X.head, .slice xk X.kids.length (X.kids.length + xsp)]) ∧ TreeP (fun b => N ≤ b ∧ s17 ≠ .pointer (some ⟨b, 0, none⟩)) W (.agg #[.int .i64 X.head, .slice xk X.kids.length (X.kids.length + xsp)]) X
  l5 : c5 = true → s93 = s98
  l7 : c7 = true → s100 = .agg #[.int .i64 xc, .int .i64 xa]
  k8 : c8 = false → s17 = undef
  l8 : c8 = true → ∃ bx p q, s17 = .pointer (some ⟨bx, 0, none⟩) ∧ N ≤ bx ∧ bv.ownBlock ≠ some bx ∧ W.heap[bx]? = some (.cells #[p, q] 24 (0, 0)) ∧ (c9 = true → s99 = .agg #[p, q])
  l10 : ∃ p q, W.heap[b9]? = some (.cells #[.int .i64 p, .int .i64 q] 28 (0, 0)) ∧ (c10 = true → p = xc ∧ q = xa)
  k98 : c9 = true → c8 = true
  k96 : c9 = true → c6 = true
  k54 : c5 = true → c4 = true
  k65 : c6 = true → c5 = true
  k43 : c4 = true → c3 = true

set_option maxRecDepth 100000 in
set_option maxHeartbeats 8000000 in
theorem treePlaces7 (t : T) (place more : List Int) (s : T) (v : Value) (po : Option Addr) (pc : Nat) (mo : Option Addr) (mc : Nat) (sv : Value) (w : World) (ht : TreeAt w v t) (hp : CellsAt w po place.length (fun j => .int .i64 (gI place j))) (hm : CellsAt w mo more.length (fun j => .int .i64 (gI more j))) (hs : TreeAt w sv s)
    (hpl : place.length ≤ pc) (hpc : pc ≤ 9223372036854775807) (hml : more.length ≤ mc) (hmc : mc ≤ 9223372036854775807) (hpn : po = none → place.length = 0 ∧ pc = 0) (hmn : mo = none → more.length = 0 ∧ mc = 0) :
    Calls Try.prog 7 #[v, .slice po place.length pc, .slice mo more.length mc, sv] w fun e w' => e = .returned (.bool true) ∧ Below w.heap.size w w' := by
  obtain ⟨k, sp, rfl⟩ := ht.form
  obtain ⟨so, ssp, rfl⟩ := hs.form
  have HT := Lib.hid ht; have HP := Lib.hid hp; have HM := Lib.hid hm; have HS := Lib.hid hs; clear ht hp hm hs
  have S0 := ((St.start w).box rfl #[.int .i64 t.head, .slice k t.kids.length (t.kids.length + sp)] 24).box (b := w.heap.size + 1) (by simp) #[.int .i64 s.head, .slice so s.kids.length (s.kids.length + ssp)] 24
  go_enter Try.func7, Try.ntmps7
  go_wp2_with fail
  refine St.gen S0 (z := w.heap.size + 2) (by simp) ?_
  intro w1 z1 S1
  refine (S1.quiet (treeFact23 _)).mono ?_
  rintro e w2 ⟨rfl, z2, S2⟩
  obtain ⟨⟨x0, _⟩, x1, _⟩ := S2.two 0
  go_wp2_with fail
  refine (S2.madeF (r := atF t place) (at27N t place _ po pc w2 (HT.out.kept S2.bel) (HP.out.below S2.bel) (Nat.le_trans hpl hpc))).mono ?_
  rintro e w3 ⟨A, fc, fa, uk, usp, rfl, HA, z3, S3⟩
  clear S0 S1 S2 x0 x1
  have S4 := (S3.box rfl #[.int .i64 A.head, .slice uk A.kids.length (A.kids.length + usp)] 24).box (b := w3.heap.size + 1) (by simp) #[.int .i64 fc, .int .i64 fa] 28
  clear S3
  cases hfc : (fc != 0) with
  | true =>
    have hfe : (fc == 0) = false := by simpa using hfc
    have HZ := Lib.hid (show A = zeroT by have := atF_err (t := t) (p := place) (by rw [HA.out]; simpa using hfc); rw [HA.out] at this; exact this)
    go_wp2_with fail
    refine St.gen S4 (z := w3.heap.size + 2) (by simp) ?_
    intro w4 z4 S5
    refine (S5.quiet (none24 A _ w4 (S5.tree 2).at)).mono ?_
    rintro e w5 ⟨rfl, z5, S6⟩
    go_wp2_with fail
    refine bodyPost_ret (v := .bool (decide (A.head = 0 ∧ A.kids.length = 0))) (by simp [results, Try.results7, go_sem]) rfl ⟨ret_bool (by rw [HZ.out]; simp [zeroT, T.head, T.kids]), S6.bel⟩
  | false =>
    have hfe : (fc == 0) = true := by simpa using hfc
    by_cases hm40 : (40 : Int) < more.length
    · go_wp2_with fail
      refine bodyPost_ret (v := .bool true) (by simp [results, Try.results7, go_sem]) rfl ⟨rfl, S4.bel⟩
    · by_cases hp40 : (40 : Int) < place.length
      · go_wp2_with fail
        refine bodyPost_ret (v := .bool true) (by simp [results, Try.results7, go_sem]) rfl ⟨rfl, S4.bel⟩
      · have HOK := Lib.hid (show (atF t place).2.1 = 0 by rw [HA.out]; simpa using hfc)
        have HPS := Lib.hid (show putF t place A = (t, (0, 0)) by have := put_same (t := t) (p := place) HOK.out; rw [HA.out] at this; exact this)
        obtain ⟨⟨x0, _⟩, x1, _⟩ := S4.two 0
        have hl0 := S4.lt 0
        go_wp2_with fail
        refine St.gen S4 (z := w3.heap.size + 2) (by simp) ?_
        intro w4 z4 S5
        clear x0 x1 hl0 S4
        refine (S5.madeF (r := putF t place A) (put28 t place A _ po pc _ w4 (HT.out.kept S5.bel) (HP.out.below S5.bel) (S5.tree 2).at hpl hpc)).mono ?_
        rintro e w5 ⟨B, bc, ba, vk, vsp, rfl, HB, z5, S6⟩
        obtain ⟨rfl, rfl, rfl⟩ : t = B ∧ 0 = bc ∧ 0 = ba := by have := HB.out; rw [HPS.out] at this; simpa using this
        obtain ⟨⟨y0, y1⟩, y2, y3⟩ := S6.two 4
        obtain ⟨⟨x0, _⟩, x1, _⟩ := S6.two 0
        have hl4 := S6.lt 4
        have hl0 := S6.lt 0
        have S7 := (S6.set2 4 rfl (.int .i64 0) (.int .i64 0) (by omega) (by simp only [fsnoc, offs, offAll, Fct.box, Fct.tree, and_true]; omega)).box (b := w5.heap.size) (by simp) #[.int .i64 t.head, .slice vk t.kids.length (t.kids.length + vsp)] 24
        go_wp2_with fail
        refine St.gen S7 (z := w5.heap.size + 1) (by simp) ?_
        intro w6 z6 S8
        clear x0 x1 y0 y1 y2 y3 hl4 hl0 S5 S6 S7
        refine (S8.quiet (same22 t t _ _ w6 (S8.tree 5).at (HT.out.kept S8.bel))).mono ?_
        rintro e w7 ⟨rfl, z7, S9⟩
        simp only [decide_true]
        obtain ⟨⟨x0, _⟩, x1, _⟩ := S9.two 0
        obtain ⟨⟨y0, _⟩, y1, _⟩ := S9.two 1
        have hl0 := S9.lt 0
        have hl1 := S9.lt 1
        go_wp2_with fail
        refine (S9.madeF (r := putF t place s) (put28 t place s _ po pc _ w7 (HT.out.kept S9.bel) (HP.out.below S9.bel) (HS.out.kept S9.bel) hpl hpc)).mono ?_
        rintro e w8 ⟨C, cc, ca, ck, csp, rfl, HC, z8, S10⟩
        clear x0 x1 y0 y1 hl0 hl1 S8 S9
        obtain ⟨⟨y0, y1⟩, y2, y3⟩ := S10.two 4
        have hl4 := S10.lt 4
        have S11 := (S10.set2 4 rfl (.int .i64 cc) (.int .i64 ca) (by omega) (by simp only [fset, fsnoc, offs, offAll, Fct.box, Fct.tree, and_true]; omega)).box (b := w8.heap.size) (by simp) #[.int .i64 C.head, .slice ck C.kids.length (C.kids.length + csp)] 24
        clear S10
        go_upto_if 74 with fail
        go_cut [] (fun wc => St w wc [.box w.heap.size #[.int .i64 t.head, .slice k t.kids.length (t.kids.length + sp)] 24, .tree w2.heap.size w3.heap.size (.agg #[.int .i64 A.head, .slice uk A.kids.length (A.kids.length + usp)]) A, .box w3.heap.size #[.int .i64 A.head, .slice uk A.kids.length (A.kids.length + usp)] 24, .box (w3.heap.size + 1) #[.int .i64 cc, .int .i64 ca] 28])
        case first =>
          cases hcc : (cc == 0) with
          | false =>
            go_wp2_with fail
            go_meet
            exact S11.pick [0, 2, 3, 4]
          | true =>
            have HAP := Lib.hid (show atF C place = (s, (0, 0)) by have := at_put (t := t) (s := s) (p := place) (by rw [HC.out]; simpa using hcc); rw [HC.out] at this; exact this)
            go_wp2_with fail
            refine St.gen S11 (z := w8.heap.size + 1) (by simp) ?_
            intro w9 z9 S12
            clear y0 y1 y2 y3 hl4 S11
            refine (S12.madeF (r := atF C place) (at27N C place _ po pc w9 (S12.tree 7).at (HP.out.below S12.bel) (Nat.le_trans hpl hpc))).mono ?_
            rintro e w10 ⟨D, dc, da, dk, dsp, rfl, HD, z10, S13⟩
            obtain ⟨rfl, rfl, rfl⟩ : s = D ∧ 0 = dc ∧ 0 = da := by have := HD.out; rw [HAP.out] at this; simpa using this
            have S14 := (S13.box rfl #[.int .i64 s.head, .slice dk s.kids.length (s.kids.length + dsp)] 24).box (b := w10.heap.size + 1) (by simp) #[.int .i64 0, .int .i64 0] 28
            clear S12 S13
            obtain ⟨⟨y0, _⟩, y1, _⟩ := S14.two 1
            have hl1 := S14.lt 1
            go_wp2_with fail
            refine St.gen S14 (z := w10.heap.size + 2) (by simp) ?_
            intro w11 z11 S15
            clear y0 y1 hl1 S14
            refine (S15.quiet (same22 s s _ _ w11 (S15.tree 9).at (HS.out.kept S15.bel))).mono ?_
            rintro e w12 ⟨rfl, z12, S16⟩
            simp only [decide_true]
            go_wp2_with fail
            go_meet
            exact S16.pick [0, 2, 3, 4]
        case rest =>
          obtain ⟨wd, rfl⟩ : ∃ W : World, W = wc := ⟨_, rfl⟩
          have HCUT := Lib.hid hcut
          have HPN := Lib.hid (HP.out.below hcut.bel)
          have hpl40 : place.length ≤ 40 := by omega
          have hml40 : more.length ≤ 40 := by omega
          have hzc := hcut.lt 3
          clear hcut S11 y0 y1 y2 y3 hl4
          obtain ⟨i3, gi, gz0, gz1, gz2⟩ := info_parts info3
          go_wp2_with (at_builtin; refine wpList_append_own_any rfl (.tmp 90) (.tmp 91) 40 rfl wd.heap.size 3 i3 (.int .i64 0) 1 8 Try.underlying40 gi gz0 gz1 gz2 rfl (by decide) (.slice none 0 0) 0 [] rfl (World.ownsRow_nil _ _ _ _) po place.length pc (place.map (Value.int .i64)) rfl hpn (by simp) HPN.out.news (ints_one _) ?c3 ?c4 (Nat.le_refl _) ?_)
          case c3 => unfold maxLen; omega
          case c4 => omega
          intro bv w9 hown hgrow
          have hbg : Below wd.heap.size wd w9 := (Below.refl _ _).grown hgrow (Nat.le_refl _) (fun q hq => by cases hq)
          have S12 := HCUT.out.step hbg
          have z9 := hbg.size
          have HOWN := Lib.hid hown
          have HOB := Lib.hid (fun q (hq : bv.ownBlock = some q) => HOWN.out.lt q hq)
          clear hown hgrow hbg
          go_upto_region 17 with fail
          generalize hX : (atF t (place ++ more)).1 = X
          generalize hXF : (atF t (place ++ more)).2 = XF
          obtain ⟨xc, xa⟩ := XF
          have HXE := Lib.hid hX; have HXF := Lib.hid hXF
          clear hX hXF
          go_cut [17] (fun s17 wx => ∃ bx xk xsp, s17 = .pointer (some ⟨bx, 0, none⟩) ∧ St w wx [.box w3.heap.size #[.int .i64 A.head, .slice uk A.kids.length (A.kids.length + usp)] 24, .tree w2.heap.size w3.heap.size (.agg #[.int .i64 A.head, .slice uk A.kids.length (A.kids.length + usp)]) A, .box (w3.heap.size + 1) #[.int .i64 xc, .int .i64 xa] 28, .box bx #[.int .i64 X.head, .slice xk X.kids.length (X.kids.length + xsp)] 24, .treeP (fun b => wd.heap.size ≤ b ∧ b ≠ bx) (.agg #[.int .i64 X.head, .slice xk X.kids.length (X.kids.length + xsp)]) X])
          case first =>
            have HB49 := Lib.hid (S12.block 0)
            have HB99 := Lib.hid (S12.block 3)
            have HMM := Lib.hid (fun (W : World) (hb : Below (w3.heap.size + 1) w9 W) => HM.out.below (S12.bel.trans (hb.mono (by omega))))
            have g49l : w.heap.size < w3.heap.size + 1 := by omega
            have g9 : w.heap.size ≤ w3.heap.size + 1 := by omega
            have hb97 : w3.heap.size + 1 < wd.heap.size := hzc
            have hN9 : wd.heap.size ≤ w9.heap.size := z9
            have hbw9 := S12.bel
            refine wp_region_inv (by kernel_rfl) (by kernel_rfl) (fun L a W => ∃ s94 s95 s96 s97 s98 s93 s99 s100 s17 : Value, a = { tmps := #[.agg #[Value.int IntKind.i64 t.head, Value.slice k t.kids.length (t.kids.length + sp)], .slice po place.length pc, .slice mo more.length mc, .agg #[Value.int IntKind.i64 s.head, Value.slice so s.kids.length (s.kids.length + ssp)], .pointer (some ⟨w.heap.size, 0, none⟩), undef, undef, .pointer (some ⟨w.heap.size + 1, 0, none⟩), u8, .bool true, .pointer (some ⟨w3.heap.size, 0, none⟩), .pointer (some ⟨w3.heap.size + 1, 0, none⟩), .pointer (some ⟨w5.heap.size, 0, none⟩), .pointer (some ⟨w8.heap.size, 0, none⟩), u14, u15, bv, s17, undef, undef, u20, u21, u22, u23, u24, u25, u26, u27, u28, u29, u30, u31, u32, u33, u34, u35, u36, u37, u38, u39, u40, u41, u42, u43, u44, u45, u46, u47, u48, u49, u50, u51, u52, u53, u54, u55, u56, u57, u58, u59, u60, u61, u62, u63, u64, u65, u66, u67, u68, u69, u70, u71, u72, u73, u74, u75, u76, u77, u78, u79, u80, u81, u82, u83, u84, u85, u86, u87, u88, u89, .slice none 0 0, .slice po place.length pc, bv, s93, s94, s95, s96, s97, s98, s99, s100, u101, u102, u103, u104, u105, u106, u107, u108, u109, u110, u111, u112, u113, u114, u115, u116, u117, u118], defers := [] } ∧ PlaceR w9 wd.heap.size (w3.heap.size + 1) (.agg #[.int .i64 t.head, .slice k t.kids.length (t.kids.length + sp)]) bv (.slice mo more.length mc) place more X xc xa (L 0) (L 1) (L 2) (L 3) (L 4) (L 5) (L 6) (L 7) (L 8) (L 9) (L 10) s94 s95 s96 s97 s98 s93 s99 s100 s17 W) ?h0 ?step ?fin
            case h0 =>
              refine ⟨_, _, _, _, _, _, _, _, _, rfl, ?_⟩
              exact { bel := (Below.refl _ _).drew, ob := HOB.out, l0 := (fun h => by cases h), l1 := (fun h => by cases h), l2 := (fun h => by cases h), own := (fun _ => HOWN.out.drew), l3 := (fun h => by cases h), l4 := (fun h => by cases h), l5 := (fun h => by cases h), l7 := (fun h => by cases h), k8 := (fun _ => rfl), l8 := (fun h => by cases h), l10 := ⟨_, _, HB99.out, (fun h => by cases h)⟩, k98 := (fun h => by cases h), k96 := (fun h => by cases h), k54 := (fun h => by cases h), k65 := (fun h => by cases h), k43 := (fun h => by cases h) }
            case step =>
              rintro L a W i o ho ⟨s94, s95, s96, s97, s98, s93, s99, s100, s17, rfl, hM⟩ hLi hdep K hK
              have hi : i < 11 := by have := (Array.getElem?_eq_some_iff.1 ho).1; simpa using this
              rcases (show i = 0 ∨ i = 1 ∨ i = 2 ∨ i = 3 ∨ i = 4 ∨ i = 5 ∨ i = 6 ∨ i = 7 ∨ i = 8 ∨ i = 9 ∨ i = 10 by omega) with rfl | rfl | rfl | rfl | rfl | rfl | rfl | rfl | rfl | rfl | rfl
              all_goals
                simp only [List.getElem?_toArray, List.getElem?_cons_succ, List.getElem?_cons_zero, Option.some.injEq] at ho
                subst ho
                simp [Region.binds] at hdep
              · have HM := Lib.hid hM
                obtain ⟨⟨x0, _⟩, x1, _⟩ := box2 ((HM.out.bel.block w.heap.size g49l).trans HB49.out)
                clear hM hdep hLi
                go_simp
                refine hK _ _ ?_
                exact ⟨_, s95, s96, s97, s98, s93, s99, s100, s17, rfl, { HM.out with l0 := fun _ => rfl }⟩
              · have HM := Lib.hid hM
                clear hM hdep hLi
                go_simp
                refine hK _ _ ?_
                exact ⟨s94, _, s96, s97, s98, s93, s99, s100, s17, rfl, { HM.out with l1 := fun _ => rfl }⟩
              · have HM := Lib.hid hM
                clear hM hdep hLi
                go_simp
                refine hK _ _ ?_
                exact ⟨s94, s95, _, s97, s98, s93, s99, s100, s17, rfl, { HM.out with l2 := fun _ => rfl }⟩
              · obtain rfl := (hM.l1 (by first | exact hdep | simp [hdep])).symm
                obtain rfl := hM.l2 (by first | exact hdep | simp [hdep])
                have HM := Lib.hid hM
                have HLI := Lib.hid hLi
                clear hM hdep hLi
                rw [if_pos (by rfl)]
                have hNW : wd.heap.size ≤ W.heap.size := Nat.le_trans hN9 HM.out.bel.size
                refine wp_append_own_any (.tmp 95) (.tmp 96) 40 rfl wd.heap.size 3 i3 (.int .i64 0) 1 8 Try.underlying40 gi gz0 gz1 gz2 rfl (by decide) bv place.length _ rfl (HM.out.own HLI.out) mo more.length mc (more.map (Value.int .i64)) rfl hmn (by simp) (HMM.out W HM.out.bel).news (ints_one _) (by unfold maxLen; omega) (by omega) hNW ?_
                intro v' w' hown hgrow
                have hbo : Below (w3.heap.size + 1) w9 w' := HM.out.bel.grown hgrow (by omega) (fun q hq => by have := (HM.out.ob q hq).1; omega)
                refine hK _ _ ?_
                exact ⟨s94, _, _, _, s98, s93, s99, s100, s17, rfl, { HM.out with bel := hbo, ob := (fun q hq => ⟨(HM.out.ob q hq).1, Nat.lt_of_lt_of_le (HM.out.ob q hq).2 hgrow.size⟩), own := (fun h => by simp [updL] at h), l3 := (fun _ _ => IntsAt.ofOwn (base := wd.heap.size) (by rw [List.length_append, List.map_append]; exact hown)), l4 := (fun h => absurd (HM.out.k43 h) (by rw [HLI.out]; simp)), l8 := (fun h => by obtain ⟨bx, p, q, q1, q2, q3, q4, q5⟩ := HM.out.l8 h; exact ⟨bx, p, q, q1, q2, q3, (hgrow.block bx (heap_lt q4) (fun e => q3 e.symm)).trans q4, q5⟩), l10 := (by obtain ⟨p, q, q1, q2⟩ := HM.out.l10; exact ⟨p, q, (hgrow.block (w3.heap.size + 1) (heap_lt q1) (fun e => by have := (HM.out.ob (w3.heap.size + 1) e.symm).1; omega)).trans q1, q2⟩), k43 := (fun _ => by simp [updL]) }⟩
              · obtain rfl := hM.l0 (by first | exact hdep | simp [hdep])
                have h3 : L 3 = true := (by first | exact hdep | simp [hdep])
                have HM := Lib.hid hM
                have HLI := Lib.hid hLi
                obtain ⟨vo, vc, rfl, hc⟩ := hM.l3 h3 hLi
                have hat := at27N t (place ++ more) _ vo vc W (HT.out.kept (hbw9.trans (HM.out.bel.mono g9))) hc (by simp; omega)
                rw [List.length_append] at hat
                have HAT := Lib.hid hat
                clear hM hdep hLi hat hc
                go_simp
                refine HAT.out.mono ?_
                rintro e W' ⟨u, rfl, hu, hb⟩
                rw [HXE.out] at hu
                rw [HXF.out]
                obtain ⟨xk, xsp, rfl⟩ := hu.at.form
                have hbW : (w3.heap.size + 1) ≤ W.heap.size := by obtain ⟨p, q, q1, _⟩ := HM.out.l10; exact Nat.le_of_lt (heap_lt q1)
                have hNW : wd.heap.size ≤ W.heap.size := Nat.le_trans hN9 HM.out.bel.size
                refine hK _ _ ?_
                exact ⟨_, s95, s96, _, _, s93, s99, s100, s17, rfl, { HM.out with bel := HM.out.bel.trans (hb.mono hbW), ob := (fun q hq => ⟨(HM.out.ob q hq).1, Nat.lt_of_lt_of_le (HM.out.ob q hq).2 hb.size⟩), own := (fun h => absurd h (by show ¬ L 3 = false; rw [h3]; simp)), l3 := (fun _ h => by simp [updL] at h), l4 := (fun _ => ⟨xk, xsp, rfl, fun h => absurd (HM.out.k54 (HM.out.k65 h)) (by rw [HLI.out]; simp), hu.mono (fun b h _ => ⟨by omega, fun e => by cases h8 : L 8 with | false => (rw [HM.out.k8 h8] at e; cases e) | true => (obtain ⟨bx, p, q, q1, q2, q3, q4, q5⟩ := HM.out.l8 h8; rw [q1] at e; have := heap_lt q4; simp at e; try omega)⟩)⟩), l8 := (fun h => by obtain ⟨bx, p, q, q1, q2, q3, q4, q5⟩ := HM.out.l8 h; exact ⟨bx, p, q, q1, q2, q3, Below.heapAt hb q4, q5⟩), l10 := (by obtain ⟨p, q, q1, q2⟩ := HM.out.l10; exact ⟨p, q, Below.heapAt hb q1, q2⟩), k54 := (fun _ => by simp [updL]), k43 := (fun _ => h3), l5 := (fun h => absurd (HM.out.k54 h) (by rw [HLI.out]; simp)) }⟩
              · have h4 : L 4 = true := (by first | exact hdep | simp [hdep])
                have HM := Lib.hid hM
                clear hM hdep hLi
                go_simp
                refine hK _ _ ?_
                exact ⟨s94, s95, s96, s97, s98, _, s99, s100, s17, rfl, { HM.out with l5 := (fun _ => rfl), k54 := (fun _ => h4), k65 := (fun _ => by simp [updL]) }⟩
              · have h5 : L 5 = true := (by first | exact hdep | simp [hdep])
                obtain rfl := hM.l5 h5
                obtain ⟨xk, xsp, rfl, e99, hX⟩ := hM.l4 (hM.k54 h5)
                have HM := Lib.hid hM
                have HX := Lib.hid hX
                have HLI := Lib.hid hLi
                clear hM hdep hLi hX e99
                go_simp
                refine hK _ _ ?_
                exact ⟨s94, s95, s96, s97, _, _, _, s100, s17, rfl, { HM.out with l4 := (fun _ => ⟨xk, xsp, rfl, fun _ => rfl, HX.out⟩), l8 := (fun h => by obtain ⟨bx, p, q, q1, q2, q3, q4, q5⟩ := HM.out.l8 h; exact ⟨bx, p, q, q1, q2, q3, q4, fun h9 => absurd (HM.out.k96 h9) (by rw [HLI.out]; simp)⟩), k96 := (fun _ => by simp [updL]), k65 := (fun _ => h5) }⟩
              · have h5 : L 5 = true := (by first | exact hdep | simp [hdep])
                obtain rfl := hM.l5 h5
                obtain ⟨xk, xsp, rfl, e99, hX⟩ := hM.l4 (hM.k54 h5)
                have HM := Lib.hid hM
                clear hM hdep hLi hX e99
                go_simp
                refine hK _ _ ?_
                exact ⟨s94, s95, s96, s97, _, _, s99, _, s17, rfl, { HM.out with l7 := (fun _ => rfl) }⟩
              · obtain rfl := hM.k8 hLi
                have HM := Lib.hid hM
                have HLI := Lib.hid hLi
                clear hM hdep hLi
                go_simp
                have hbW : (w3.heap.size + 1) ≤ W.heap.size := by obtain ⟨p, q, q1, _⟩ := HM.out.l10; exact Nat.le_of_lt (heap_lt q1)
                have hNW : wd.heap.size ≤ W.heap.size := Nat.le_trans hN9 HM.out.bel.size
                have hba := (Below.refl W.heap.size W).alloc (Nat.le_refl _) (.cells #[.int .i64 0, .slice none 0 0] 24)
                refine hK _ _ ?_
                exact ⟨s94, s95, s96, s97, s98, s93, s99, s100, _, rfl, { HM.out with bel := HM.out.bel.alloc hbW _, ob := (fun q hq => ⟨(HM.out.ob q hq).1, by have := (HM.out.ob q hq).2; simp; omega⟩), own := (fun h => (HM.out.own h).alloc _), l3 := (fun h h' => (HM.out.l3 h h').below hba), l4 := (fun h => by obtain ⟨xk, xsp, e1, e2, e3⟩ := HM.out.l4 h; exact ⟨xk, xsp, e1, e2, (e3.mono (q := fun b => wd.heap.size ≤ b ∧ Value.pointer (some ⟨W.heap.size, 0, none⟩) ≠ .pointer (some ⟨b, 0, none⟩)) (fun b h h2 => ⟨h.1, fun e => by simp at e; try omega⟩)).kept hba⟩), k8 := (fun h => by simp [updL] at h), l8 := (fun _ => ⟨W.heap.size, _, _, rfl, hNW, fun e => by have := (HM.out.ob _ e).2; omega, heap_ofAlloc W _, fun h9 => absurd (HM.out.k98 h9) (by rw [HLI.out]; simp)⟩), l10 := (by obtain ⟨p, q, q1, q2⟩ := HM.out.l10; exact ⟨p, q, heap_alloc_old q1, q2⟩), k98 := (fun _ => by simp [updL]) }⟩
              · have h8 : L 8 = true := (by first | exact hdep | simp [hdep])
                have h6 : L 6 = true := (by first | exact hdep | simp [hdep])
                have h4 : L 4 = true := (by first | exact hdep | simp [hdep])
                have h3 : L 3 = true := (by first | exact hdep | simp [hdep])
                obtain ⟨bx, p, q, rfl, hN, hob, hbx, _⟩ := hM.l8 h8
                obtain ⟨xk, xsp, rfl, e99, hX⟩ := hM.l4 h4
                obtain rfl := e99 h6
                have HM := Lib.hid hM
                have HBX := Lib.hid hbx
                have HX := Lib.hid hX
                have hlx := heap_lt hbx
                obtain ⟨⟨y0, y1⟩, y2, y3⟩ := box2 hbx
                clear hM hdep hLi hbx hX e99
                go_simp
                refine hK _ _ ?_
                exact ⟨s94, s95, s96, s97, _, s93, _, s100, _, rfl, { HM.out with bel := (HM.out.bel.setCell (p := ⟨bx, 0, none⟩) (by show (w3.heap.size + 1) ≤ bx; omega) _).setCell (p := ⟨bx, 1, none⟩) (by show (w3.heap.size + 1) ≤ bx; omega) _, ob := (fun q hq => by have := HM.out.ob q hq; simpa using this), own := (fun h => absurd h (by show ¬ L 3 = false; rw [h3]; simp)), l3 := (fun _ h => absurd h (by show ¬ L 4 = false; rw [h4]; simp)), l4 := (fun _ => ⟨xk, xsp, rfl, fun _ => rfl, (HX.out.setCell (a := ⟨bx, 0, none⟩) (fun h => h.2 rfl) _).setCell (a := ⟨bx, 1, none⟩) (fun h => h.2 rfl) _⟩), l8 := (fun _ => ⟨bx, _, _, rfl, hN, hob, box2_set HBX.out _ _, fun _ => rfl⟩), l10 := (by obtain ⟨p, q, q1, q2⟩ := HM.out.l10; exact ⟨p, q, heap_set_other (a := ⟨bx, 1, none⟩) (heap_set_other (a := ⟨bx, 0, none⟩) q1 (by show (w3.heap.size + 1) ≠ bx; omega)) (by show (w3.heap.size + 1) ≠ bx; omega), q2⟩), k98 := (fun _ => h8), k96 := (fun _ => h6) }⟩
              · have h7 : L 7 = true := (by first | exact hdep | simp [hdep])
                have h4 : L 4 = true := (by first | exact hdep | simp [hdep])
                have h3 : L 3 = true := (by first | exact hdep | simp [hdep])
                obtain rfl := hM.l7 h7
                obtain ⟨p, q, hb9, _⟩ := hM.l10
                have HM := Lib.hid hM
                have HB9 := Lib.hid hb9
                have hlx := heap_lt hb9
                obtain ⟨⟨y0, y1⟩, y2, y3⟩ := box2 hb9
                clear hM hdep hLi hb9
                go_simp
                refine hK _ _ ?_
                exact ⟨s94, s95, s96, s97, s98, s93, s99, _, s17, rfl, { HM.out with bel := (HM.out.bel.setCell (p := ⟨(w3.heap.size + 1), 0, none⟩) (Nat.le_refl _) _).setCell (p := ⟨(w3.heap.size + 1), 1, none⟩) (Nat.le_refl _) _, ob := (fun q hq => by have := HM.out.ob q hq; simpa using this), own := (fun h => absurd h (by show ¬ L 3 = false; rw [h3]; simp)), l3 := (fun _ h => absurd h (by show ¬ L 4 = false; rw [h4]; simp)), l4 := (fun _ => by obtain ⟨xk, xsp, e1, e2, e3⟩ := HM.out.l4 h4; exact ⟨xk, xsp, e1, e2, (e3.setCell (a := ⟨(w3.heap.size + 1), 0, none⟩) (fun h => by have h1 := h.1; simp at h1; try omega) _).setCell (a := ⟨(w3.heap.size + 1), 1, none⟩) (fun h => by have h1 := h.1; simp at h1; try omega) _⟩), l8 := (fun h => by obtain ⟨bx, p', q', q1, q2, q3, q4, q5⟩ := HM.out.l8 h; exact ⟨bx, p', q', q1, q2, q3, heap_set_other (a := ⟨(w3.heap.size + 1), 1, none⟩) (heap_set_other (a := ⟨(w3.heap.size + 1), 0, none⟩) q4 (by show bx ≠ (w3.heap.size + 1); omega)) (by show bx ≠ (w3.heap.size + 1); omega), q5⟩), l10 := ⟨xc, xa, box2_set HB9.out _ _, fun _ => ⟨rfl, rfl⟩⟩ }⟩
            case fin =>
              rintro L a W hall ⟨s94, s95, s96, s97, s98, s93, s99, s100, s17, rfl, hM⟩
              have h3 := hall 3 (by decide)
              obtain rfl := hM.l0 (hall 0 (by decide))
              obtain rfl := hM.l2 (hall 2 (by decide))
              obtain ⟨bx, p, q, rfl, hNx, hobx, hbx, h9⟩ := hM.l8 (hall 8 (by decide))
              obtain ⟨xk, xsp, rfl, e99, hXT⟩ := hM.l4 (hall 4 (by decide))
              obtain rfl := e99 (hall 6 (by decide))
              obtain rfl := hM.l7 (hall 7 (by decide))
              obtain rfl := hM.l5 (hall 5 (by decide))
              obtain ⟨p', q', hb9, hpq⟩ := hM.l10
              obtain ⟨rfl, rfl⟩ := hpq (hall 10 (by decide))
              have hbel := hM.bel
              have hbx' := h9 (hall 9 (by decide))
              have S13 := (((S12.pick [2, 1]).under hbel g9 (by simp only [List.map, Fct.at, unders, Fct.box, Fct.tree, and_true]; exact ⟨fun c hc => by omega, fun c hc => by omega⟩)).add (.box (w3.heap.size + 1) #[.int .i64 p', .int .i64 q'] 28) hb9).add (.box bx #[p, q] 24) hbx
              obtain ⟨rfl, rfl⟩ : Value.int .i64 X.head = p ∧ Value.slice xk X.kids.length (X.kids.length + xsp) = q := by simpa using hbx'
              have S14 := S13.add (.treeP (fun b => wd.heap.size ≤ b ∧ b ≠ bx) (.agg #[.int .i64 X.head, .slice xk X.kids.length (X.kids.length + xsp)]) X) (hXT.mono (fun b h _ => ⟨h.1, fun e => h.2 (by rw [e])⟩))
              have HS14 := Lib.hid S14
              clear hM hall hXT hbx hb9 hbel hbx' S13 S14
              go_wp2_with fail
              go_meet
              exact ⟨bx, xk, xsp, rfl, HS14.out⟩
          case rest =>
            obtain ⟨bx, xk, xsp, rfl, S13⟩ := hcut
            obtain ⟨⟨x0, _⟩, x1, _⟩ := S13.two 0
            have hl0 := S13.lt 0
            go_wp2_with fail
            refine (S13.madeF (r := atF A more) (at27N A more _ mo mc wc (S13.tree 1).at (HM.out.below S13.bel) (Nat.le_trans hml hmc))).mono ?_
            rintro e w14 ⟨Y, yc, ya, yk, ysp, rfl, HY, z14, S14⟩
            have S15 := (S14.box rfl #[.int .i64 Y.head, .slice yk Y.kids.length (Y.kids.length + ysp)] 24).box (b := w14.heap.size + 1) (by simp) #[.int .i64 yc, .int .i64 ya] 28
            have hap := at_append (t := t) (p := place) (m := more) HOK.out
            rw [HA.out, HY.out, HXE.out, HXF.out] at hap
            have HXY := Lib.hid hap.1
            have hxy : (xc == 0) = (yc == 0) := by rw [Bool.eq_iff_iff]; simpa using hap.2
            clear hap x0 x1 hl0 S14
            obtain ⟨⟨x0, _⟩, x1, _⟩ := S15.two 3
            obtain ⟨⟨y0, _⟩, y1, _⟩ := S15.two 2
            have hl3 := S15.lt 3
            have hl2 := S15.lt 2
            cases hxc : (xc == 0) with
            | true =>
              have hyc : (yc == 0) = true := by rw [← hxy, hxc]
              clear hxy
              go_wp2_with fail
              refine St.gen S15 (z := w14.heap.size + 2) (by simp) ?_
              intro w15 z15 S16
              refine (S16.quiet (same22 X Y _ _ w15 (S16.treeP 4).at (S16.tree 5).at)).mono ?_
              rintro e w16 ⟨rfl, z16, S17⟩
              go_wp2_with fail
              refine bodyPost_ret (v := .bool (decide (X = Y))) (by simp [results, Try.results7, go_sem]) rfl ⟨ret_bool (by simpa using HXY.out), S17.bel⟩
            | false =>
              have hyc : (yc == 0) = false := by rw [← hxy, hxc]
              clear hxy
              go_wp2_with fail
              refine St.gen S15 (z := w14.heap.size + 2) (by simp) ?_
              intro w15 z15 S16
              refine (S16.quiet (same22 X Y _ _ w15 (S16.treeP 4).at (S16.tree 5).at)).mono ?_
              rintro e w16 ⟨rfl, z16, S17⟩
              go_wp2_with fail
              refine bodyPost_ret (v := .bool (decide (X = Y))) (by simp [results, Try.results7, go_sem]) rfl ⟨ret_bool (by simpa using HXY.out), S17.bel⟩
end Go.Proofs.Ytcckgfgobakphaa
