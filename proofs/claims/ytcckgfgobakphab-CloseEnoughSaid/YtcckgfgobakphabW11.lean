/-
  Walks: related, why.
-/
import Derived.Test.YtcckgfgobakphabProg
import Derived.Test.YtcckgfgobakphabBase
import Derived.Test.YtcckgfgobakphabCmath
import Derived.Test.YtcckgfgobakphabW10
import Derived.Deep.RegionLaw
namespace Go.Proofs.Ytcckgfgobakphab
open Go.RowKit Go.Shelf
set_option linter.unusedVariables false
set_option maxHeartbeats 400000

theorem related_any (ts : List Tm) (ps : List (Int × Int)) (a b : Nat) (tv pv : Value) (w : World) (hn : ts.length ≤ 80) (hm : ps.length ≤ 120) (hk0 : kidsIn ts) (hp0 : pairsIn ts.length ps)
    (ha : a < ts.length) (hb : b < ts.length) (ht : TermsAt w tv ts) (hp : PairsAt w pv ps) :
    Calls Try.prog 27 #[tv, pv, .int .i64 a, .int .i64 b] w fun e w' => e = .returned (.bool (relD ts ps a b)) ∧ Below w.heap.size w w' := by
  have H := Lib.hid (classes_any ts ps tv pv w hn hm hk0 hp0 ht hp)
  have hgood := Lib.hid (classes_good (ts := ts) hp0)
  clear ht hp hk0 hp0
  go_enter Try.func27, Try.ntmps27
  go_wp2_with fail
  refine H.out.mono ?_
  rintro e w1 ⟨u, rfl, hcl, hb1⟩
  obtain ⟨co, cc, rfl, hcc⟩ := hcl.1
  have hlen := hgood.out.len
  rw [hlen] at hcc ⊢
  obtain ⟨cb, cf, rfl, g1⟩ := hcc.get ha
  obtain ⟨cb', cf', e0, g2⟩ := hcc.get hb
  simp only [Option.some.injEq, Addr.mk.injEq] at e0
  obtain ⟨rfl, rfl, _⟩ := e0
  have HRD := Lib.hid (show relD ts ps a b = ((gN (classes ts ps) a : Int) == (gN (classes ts ps) b : Int)) by
    unfold relD; rw [Bool.eq_iff_iff]; simp <;> omega)
  clear hcc hlen
  go_wp2_with fail
  go_quiet (fail)
  go_wp2_with fail
  go_ret
  exact ⟨ret_bool HRD.out.symm, below_drewN hb1 _⟩

/-- two rows of different element types are two -/
theorem own_apart {w : World} {base eA sA eB sB nA nB : Nat} {vA vB : Value} {xA xB : List Value} (hA : w.ownsRow base eA sA vA nA xA) (hB : w.ownsRow base eB sB vB nB xB) (hne : eA ≠ eB) :
    vA.ownBlock = none ∨ vA.ownBlock ≠ vB.ownBlock := by
  rcases hA.2 with ⟨rfl, _⟩ | ⟨g, cap, cur, rfl, _, hh, _⟩
  · exact .inl rfl
  · right
    rcases hB.2 with ⟨rfl, _⟩ | ⟨g', cap', cur', rfl, _, hh', _⟩
    · simp [Value.ownBlock]
    · simp only [Value.ownBlock, ne_eq, Option.some.injEq]
      rintro rfl
      rw [hh] at hh'
      simp only [Option.some.injEq, Obj.cells.injEq] at hh'
      exact hne hh'.2.1

/-- append to one row of the call's own, beside another one, as one step of a region that draws -/
theorem step_append_two {P : Program} {ops : Array Oper} {o : Oper} {a : Act} {w W0 : World} {K : Act → World → Prop} {Q : Exit → Act → World → Prop} {E : Prop} (B0 : Nat)
    (hg : o.guard = none) (s x : Operand) (t : TypeId) (hop : o.op = Op.call { callee := Callee.builtin Builtin.append, args := #[s, x], argTypes := #[t, t] })
    (base : Nat) (e : TypeId) (i : TypeInfo) (z : Value) (size bytes : Nat) (ht : P.underlying t = some (.slice e)) (hi : P.info? e = some i) (hz : i.zero = some z)
    (hsize : i.size = size) (hby : i.bytes = bytes) (hzs : z.cells.size = size) (hsz : 0 < size)
    (v : Value) (n : Nat) (xs : List Value) (hs : a.eval s = v) (ad : Addr) (m c : Nat) (news : List Value) (hx : a.eval x = .slice (some ad) m c) (hl : news.length = m * size)
    (h1 : ∀ u ∈ news, u.oneCell' = true) (h63 : n + m ≤ maxLen) (hbytes : (n + m) * bytes ≤ 140737488355328) (hB0 : B0 ≤ base)
    (e2 s2 n2 : Nat) (v2 : Value) (xs2 : List Value) (hne : e2 ≠ e)
    (hown : w.ownsRow base e size v n xs) (hown2 : w.ownsRow base e2 s2 v2 n2 xs2) (hbel : Below B0 W0 w) (hnews : ∀ j u, news[j]? = some u → w.cell? (ad.add j) = some u) (hbase : base ≤ w.heap.size)
    (N : Nat) (hN : ∀ k, v.ownBlock = some k → k < N)
    (hK : ∀ v' w', w'.ownsRow base e size v' (n + m) (xs ++ news) → w'.ownsRow base e2 s2 v2 n2 xs2 → Below B0 W0 w' → Hid (∀ a u, w.cell? a = some u → N ≤ a.block → w'.cell? a = some u) → base ≤ w'.heap.size → K (a.put o.dst v') w') :
    if Region.wanted o (yielded ops a.tmps) = true then Oper.wp P o a w K Q else E := by
  have hw : Region.wanted o (yielded ops a.tmps) = true := by simp [Region.wanted, hg]
  rw [if_pos hw]
  exact wp_append_own w s x t hop base e i z size bytes ht hi hz hsize hby hzs hsz v n xs hs hown ad m c news hx hl hnews h1 h63 hbytes hbase
    fun v' w' h hgr _ => hK v' w' h (hown2.kept hgr (own_apart hown2 hown hne)) (hbel.grown hgr (Nat.le_trans hB0 hbase) (fun k hk => Nat.le_trans hB0 (hown.lt k hk).1)) (fun a u hc hN' => hgr.cell hc (fun e => by have := hN _ e.symm; omega)) (Nat.le_trans hbase hgr.size)

theorem one_news {w : World} {b : Nat} {x : Value} (h : w.cell? ⟨b, 0, none⟩ = some x) : ∀ j u, [x][j]? = some u → w.cell? ((⟨b, 0, none⟩ : Addr).add j) = some u := by
  intro j u hj
  match j, hj with
  | 0, hj => simp at hj; subst hj; simpa [Addr.add] using h
theorem two_news {w : World} {b : Nat} {x y : Value} (h : w.cell? ⟨b, 0, none⟩ = some x) (h2 : w.cell? ⟨b, 1, none⟩ = some y) : ∀ j u, [x, y][j]? = some u → w.cell? ((⟨b, 0, none⟩ : Addr).add j) = some u := by
  intro j u hj
  match j, hj with
  | 0, hj => simp at hj; subst hj; simpa [Addr.add] using h
  | 1, hj => simp at hj; subst hj; simpa [Addr.add] using h2
  | j + 2, hj => simp at hj

theorem filter_ne_setP (p : Nat → Bool) (i m : Nat) : (idxOf p m).filter (fun j => j != i) = idxOf (setP p i false) m := by
  simp only [idxOf, List.filter_filter]
  apply List.filter_congr
  intro j _
  simp only [setP]
  by_cases h : j = i <;> simp [h]

set_option maxRecDepth 100000 in
set_option maxHeartbeats 4000000 in
theorem why_any (ts : List Tm) (ps : List (Int × Int)) (a b : Nat) (tv pv : Value) (w : World) (hn : ts.length ≤ 80) (hm : ps.length ≤ 120) (hk0 : kidsIn ts) (hp0 : pairsIn ts.length ps)
    (ha : a < ts.length) (hb : b < ts.length) (ht : TermsAt w tv ts) (hp : PairsAt w pv ps) :
    Calls Try.prog 21 #[tv, pv, .int .i64 a, .int .i64 b] w fun e w' => ∃ u, e = .returned u ∧ NatsFrom w.heap.size w' u (whyL ts ps a b) ∧ Below w.heap.size w w' := by
  have HTA := Lib.hid ht; have HPA := Lib.hid hp
  obtain ⟨bo, bcap, rfl, hps⟩ := hp
  obtain ⟨i3, hi, hz0, hz1, hz2⟩ := info_parts info3
  obtain ⟨i34, li, lz0, lz1, lz2⟩ := info_parts info34
  have HP := Lib.hid hps; have HK := Lib.hid hk0; have HPI := Lib.hid hp0; clear hps hk0 hp0 ht
  go_enter Try.func21, Try.ntmps21
  go_wp2_with fail
  go_loopw [9, 10, 18] (fun o _ i wr => ∃ k : Nat, k ≤ ps.length ∧ i = .int .i64 k ∧ Below w.heap.size w wr ∧ wr.ownsRow w.heap.size 3 1 o k ((List.range k).map vN)) (fun _ _ i _ => ps.length - (intOf i).toNat)
  case atStart => exact ⟨0, by omega, rfl, Below.refl _ _, by simpa using World.ownsRow_nil _ _ _ _⟩
  case round =>
    obtain ⟨k, hk, rfl, hbel, hown⟩ := hrel
    have hsz := hbel.size
    by_cases hkl : k < ps.length
    · go_wp2_with (at_builtin; refine wpList_append_own _ rfl _ _ 24 rfl w.heap.size 3 i3 (.int .i64 0) 1 8 Try.underlying24 hi hz0 hz1 hz2 rfl (by decide) _ _ _ rfl (hown.alloc _) ⟨wr.heap.size, 0, none⟩ 1 1 [vN k] rfl rfl ?c1 ?c2 ?c3 ?c4 ?c5 ?_)
      case c1 => exact cell_one_new _ _ _
      case c2 => intro u hu; simp at hu; subst hu; rfl
      case c3 => unfold maxLen; omega
      case c4 => omega
      case c5 => simp; omega
      intro v' w1 hown' hgrow _
      have hb1 : Below w.heap.size w w1 := (hbel.alloc hsz _).grown hgrow (by simp; omega) (fun q hq => (hown.lt q hq).1)
      clear hown hgrow
      go_wp2_with fail
      go_roundw
      case rel => exact ⟨k + 1, by omega, by go_num, hb1, by rw [range_vN]; exact hown'⟩
      case measure => simp [intOf] <;> omega
    · obtain rfl : k = ps.length := by omega
      have hnat : NatsFrom w.heap.size wr u9 (idxOf (fun _ => true) ps.length) := by
        have e : idxOf (fun _ => true) ps.length = List.range ps.length := List.filter_eq_self.2 (by simp)
        rw [e]; exact NatsFrom.ofOwn (base := w.heap.size) (by rw [List.length_range]; exact hown) (Nat.le_refl _)
      have HN := Lib.hid hnat; clear hnat hown
      go_wp2_with fail
      go_loopw [9, 11, 12, 13, 15] (fun l i _ _ _ wr => ∃ (q : Nat) (p : Nat → Bool), q ≤ ps.length ∧ i = .int .i64 ((q : Int) - 1) ∧ Below w.heap.size w wr ∧ NatsFrom w.heap.size wr l (idxOf p ps.length) ∧ (∀ j, j < q → p j = true) ∧
          whyP ts ps a b q p = whyP ts ps a b ps.length (fun _ => true)) (fun _ i _ _ _ _ => (intOf i + 1).toNat)
      case atStart => exact ⟨ps.length, fun _ => true, Nat.le_refl _, rfl, hbel, HN.out, fun _ _ => rfl, rfl⟩
      case round =>
        obtain ⟨q, p, hq, rfl, hbel, hnat, hpt, hwhy⟩ := hrel
        have HW := Lib.hid hwhy; have HN := Lib.hid hnat; have HPT := Lib.hid hpt; clear hwhy hnat hpt
        cases q with
        | zero =>
          have e0 : (((0 : Nat) : Int) - 1) = -1 := rfl
          simp only [e0]
          have hres : NatsFrom w.heap.size wr u9 (whyL ts ps a b) := by
            have e : whyL ts ps a b = idxOf p ps.length := by
              have := HW.out
              simp only [whyP] at this
              rw [whyL, ← this]; rfl
            rw [e]; exact HN.out
          have HRES := Lib.hid hres; clear hres
          go_wp2_with fail
          go_ret
          exact ⟨_, rfl, HRES.out, hbel⟩
        | succ q =>
          have hql : q < ps.length := by omega
          obtain ⟨p1, hp1⟩ : ∃ p1, p1 = setP p q false := ⟨_, rfl⟩
          have HP1 := Lib.hid hp1; clear hp1
          have hq1 : ((q + 1 : Nat) : Int) - 1 = (q : Int) := by omega
          simp only [hq1]
          have hidx : ∃ L, L = idxOf p ps.length := ⟨_, rfl⟩
          obtain ⟨L, hL⟩ := hidx
          have HL := Lib.hid hL
          rw [← hL] at HN
          have hLle : L.length ≤ ps.length := by rw [hL]; exact idxOf_le _ _
          have hLin : ∀ j, j < L.length → gN L j < ps.length := by
            intro j hj
            have hm := gN_mem hj
            generalize gN L j = x at hm ⊢
            rw [hL] at hm
            simp only [idxOf, List.mem_filter, List.mem_range] at hm
            exact hm.1
          have HLI := Lib.hid hLin
          clear hL hLin
          have HNL := HN
          obtain ⟨lo, lc, rfl, hlc⟩ := HN.out.1
          have HLC := Lib.hid hlc; clear hlc
          go_wp2_with fail
          obtain ⟨wo, rfl⟩ : ∃ wo : World, wo = wr := ⟨_, rfl⟩
          go_loopw [12, 13, 15, 35] (fun f o _ i wr => ∃ k : Nat, k ≤ L.length ∧ i = .int .i64 k ∧ Below wo.heap.size wo wr ∧
              wr.ownsRow wo.heap.size 3 1 f ((L.take k).filter (fun j => j != q)).length (((L.take k).filter (fun j => j != q)).map vN) ∧
              wr.ownsRow wo.heap.size 34 2 o ((L.take k).filter (fun j => j != q)).length (flatP (((L.take k).filter (fun j => j != q)).map (gP ps)))) (fun _ _ _ i _ => L.length - (intOf i).toNat)
          case atStart => exact ⟨0, by omega, rfl, Below.refl _ _, by simpa using World.ownsRow_nil _ _ _ _, by simpa [flatP] using World.ownsRow_nil _ _ _ _⟩
          case round =>
            obtain ⟨k, hk, rfl, hbo, hA, hB⟩ := hrel
            have hbw := Below.step hbel hbo
            by_cases hkl : k < L.length
            · obtain ⟨lb, lf, rfl, ck0⟩ := HLC.out.get hkl
              have ck := Below.cellOf hbo ck0
              clear ck0
              have hin := HLI.out k hkl
              obtain ⟨pb, po, rfl, x1, x2⟩ := HP.out (gN L k) hin
              have y1 := Below.cellOf hbw x1
              have y2 := Below.cellOf hbw x2
              have HTK := Lib.hid (show L.take (k + 1) = L.take k ++ [gN L k] by rw [List.take_succ_eq_append_getElem hkl, gN_get hkl])
              have hle : ((L.take k).filter (fun j => j != q)).length ≤ 120 := by
                have := List.length_filter_le (fun j => j != q) (L.take k)
                have h2 := List.length_take_le k L
                omega
              have hsz := hbo.size
              have hpb := block_lt_of_cell y1
              simp only at hpb
              generalize hX : gN L k = X at ck y1 y2 hin HTK x1 x2
              have HX1 := Lib.hid x1; have HX2 := Lib.hid x2; clear x1 x2
              generalize hF : (L.take k).filter (fun j => j != q) = F at hA hB hle HTK
              have HX := Lib.hid hX; have HF := Lib.hid hF; clear hX hF
              by_cases hXq : X = q
              · have hx2 : ((X : Int) != (q : Int)) = false := by simp [hXq]
                have HXQ := Lib.hid hXq; clear hXq
                go_wp2_with fail
                go_roundw
                case rel => exact ⟨k + 1, by omega, by go_num, hbo, by rw [HTK.out, List.filter_append, HF.out]; simpa [HXQ.out] using hA, by rw [HTK.out, List.filter_append, HF.out]; simpa [HXQ.out] using hB⟩
                case measure => simp [intOf] <;> omega
              · have hx2 : ((X : Int) != (q : Int)) = true := by simp; omega
                have HXQ := Lib.hid hXq; clear hXq
                go_wp2_with fail
                have hA1 : wr.drew.ownsRow wo.heap.size 3 1 u12 F.length (F.map vN) := hA
                have hB1 : wr.drew.ownsRow wo.heap.size 34 2 u13 F.length (flatP (F.map (gP ps))) := hB
                have hbel1 : Below wo.heap.size wo wr.drew := hbo.drew
                clear hA hB
                have hnA : ∀ k, u12.ownBlock = some k → k < wr.heap.size := fun k hk => (hA1.lt k hk).2
                have hnB : ∀ k, u13.ownBlock = some k → k < wr.heap.size := fun k hk => (hB1.lt k hk).2
                have hbs : wo.heap.size ≤ wr.drew.heap.size := hsz
                have HNA := Lib.hid hnA; have HNB := Lib.hid hnB; clear hnA hnB
                go_region_law (first
                  | (refine step_append_two wo.heap.size rfl (.tmp 42) (.tmp 44) 24 rfl wo.heap.size 3 i3 (.int .i64 0) 1 8 Try.underlying24 hi hz0 hz1 hz2 rfl (by decide) u12 F.length (F.map vN) rfl _ 1 1 [.int .i64 X] rfl rfl (by simp [Value.oneCell']) (by unfold maxLen; omega) (by omega) (Nat.le_refl _) 34 2 _ _ _ (by decide) (by first | exact hA1 | exact hA1.alloc _ | exact (hA1.alloc _).alloc _) (by first | exact hB1 | exact hB1.alloc _ | exact (hB1.alloc _).alloc _) (W0 := wo) (by first | exact hbel1 | exact hbel1.alloc (by first | exact hbs | (simp; omega)) _ | exact (hbel1.alloc (by first | exact hbs | (simp; omega)) _).alloc (by simp; omega) _) (one_news (by first | (simp; done) | exact HKP.out _ _ (by simp) (by simp) | (simp; exact HKP.out _ _ (by simp) (by simp)))) (by first | exact hbs | (simp; omega) | (simp; done)) wr.heap.size HNA.out ?_; intro v' w' hA1 hB1 hbel1 HKP hbs; have z1 := Below.cellOf (Below.step hbel hbel1) HX1.out; have z2 := Below.cellOf (Below.step hbel hbel1) HX2.out)
                  | (refine step_append_two wo.heap.size rfl (.tmp 46) (.tmp 51) 23 rfl wo.heap.size 34 i34 (.agg #[.int .i64 0, .int .i64 0]) 2 16 Try.underlying23 li lz0 lz1 lz2 rfl (by decide) u13 F.length (flatP (F.map (gP ps))) rfl _ 1 1 [.int .i64 (gP ps X).1, .int .i64 (gP ps X).2] rfl rfl (by simp [Value.oneCell']) (by unfold maxLen; omega) (by omega) (Nat.le_refl _) 3 1 _ _ _ (by decide) (by first | exact hB1 | exact hB1.alloc _ | exact (hB1.alloc _).alloc _) (by first | exact hA1 | exact hA1.alloc _ | exact (hA1.alloc _).alloc _) (W0 := wo) (by first | exact hbel1 | exact hbel1.alloc (by first | exact hbs | (simp; omega)) _ | exact (hbel1.alloc (by first | exact hbs | (simp; omega)) _).alloc (by simp; omega) _) (two_news (by first | (simp; done) | exact HKP.out _ _ (by simp) (by simp) | (simp; exact HKP.out _ _ (by simp) (by simp))) (by first | (simp; done) | exact HKP.out _ _ (by simp) (by simp) | (simp; exact HKP.out _ _ (by simp) (by simp)))) (by first | exact hbs | (simp; omega) | (simp; done)) wr.heap.size HNB.out ?_; intro v' w' hB1 hA1 hbel1 HKP hbs))
                all_goals
                  go_wp2_with fail
                  go_roundw
                  case rel => exact ⟨k + 1, by omega, by go_num, hbel1, by rw [HTK.out, List.filter_append, HF.out]; simpa [HXQ.out, vN] using hA1, by rw [HTK.out, List.filter_append, HF.out]; simpa [HXQ.out, flatP] using hB1⟩
                  case measure => simp [intOf] <;> omega
            · obtain rfl : k = L.length := by omega
              rw [List.take_length] at hA hB
              have hfl := filter_ne_setP p q ps.length
              rw [← HL.out, ← HP1.out] at hfl
              have hpo : (idxOf p1 ps.length).map (gP ps) = pairsOf ps p1 ps.length := rfl
              have hlenP : (pairsOf ps p1 ps.length).length = (idxOf p1 ps.length).length := by rw [← hpo, List.length_map]
              rw [hfl] at hA hB
              have hNA : NatsFrom w.heap.size wr u12 (idxOf p1 ps.length) := NatsFrom.ofOwn hA hbel.size
              have hPB : PairsAt wr u13 (pairsOf ps p1 ps.length) := PairsAt.ofOwn (base := wo.heap.size) (by rw [hlenP, ← hpo]; exact hB)
              have hle := pairsOf_le ps p1 ps.length
              have HIN := Lib.hid (pairsOf_in HPI.out (p := p1) (Nat.le_refl _))
              have HNA := Lib.hid hNA; have HPB := Lib.hid hPB; clear hNA hPB hA hB hfl hpo hlenP
              have HWS := Lib.hid (show whyP ts ps a b (q + 1) p = whyP ts ps a b q (if relD ts (pairsOf ps (setP p q false) ps.length) a b then setP p q false else setP (setP p q false) q true) from rfl)
              rw [← HP1.out] at HWS
              go_wp2_with fail
              refine (related_any ts (pairsOf ps p1 ps.length) a b _ _ _ (by omega) (by omega) HK.out HIN.out ha hb (HTA.out.below hbw) HPB.out).mono ?_
              rintro e w1 ⟨rfl, hb1⟩
              have hbw1 := Below.step hbw hb1
              cases hrd : relD ts (pairsOf ps p1 ps.length) a b with
              | true =>
                have HRD := Lib.hid hrd; clear hrd
                go_wp2_with fail
                go_roundw
                case rel => exact ⟨q, p1, by omega, by go_num, hbw1, HNA.out.below hb1, fun j hj => by rw [HP1.out]; simp only [setP]; rw [if_neg (by omega)]; exact HPT.out j (by omega), by rw [← HW.out, HWS.out, HRD.out]; simp⟩
                case measure => simp [intOf] <;> omega
              | false =>
                have HRD := Lib.hid hrd; clear hrd
                have hpp : setP p1 q true = p := by
                  rw [HP1.out]; funext j; simp only [setP]; by_cases h : j = q
                  · subst h; simp [HPT.out j (by omega)]
                  · simp [h]
                have HPP := Lib.hid hpp; clear hpp
                go_wp2_with fail
                go_roundw
                case rel => exact ⟨q, p, by omega, by go_num, hbw1, by rw [← HL.out]; exact HNL.out.below (Below.step hbo hb1), fun j hj => HPT.out j (by omega), by rw [← HW.out, HWS.out, HRD.out, HPP.out]; simp⟩
                case measure => simp [intOf] <;> omega
end Go.Proofs.Ytcckgfgobakphab
