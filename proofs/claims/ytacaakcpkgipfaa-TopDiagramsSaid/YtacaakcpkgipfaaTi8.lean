/-
  Walk: the earliest starts.
-/
import Derived.Test.YtacaakcpkgipfaaProg
import Derived.Test.YtacaakcpkgipfaaTi7
import Derived.Test.YtacaakcpkgipfaaG4
import Derived.RegionTactic
import Derived.BigQuiet
import Derived.Deep.DeepCutAuto
namespace Go.Proofs.Ytacaakcpkgipfaa
open Go.RowKit Go.Shelf
set_option linter.unusedVariables false
set_option maxHeartbeats 400000

theorem int_css {B : Nat} {p : Nat → Prop} {w : World} {o : Value} {xs : List Int} (h : intE.Own p B w o xs) : w.ownsRow B 3 1 o xs.length (xs.map (Value.int .i64)) := by
  obtain ⟨css, hcl, ho, hk⟩ := h
  have e : css = xs.map (fun x => [Value.int .i64 x]) := by
    refine List.ext_getElem (by simp [hcl]) fun i h1 h2 => ?_
    have h3 : i < xs.length := by omega
    have := hk i css[i] xs[i] (List.getElem?_eq_getElem h1) (List.getElem?_eq_getElem h3)
    rw [List.getElem_map]
    exact this
  have e2 : css.flatten = xs.map (Value.int .i64) := by
    rw [e]
    clear e hk ho hcl
    induction xs with
    | nil => rfl
    | cons x r ih => simp only [List.map_cons, List.flatten_cons, ih]; rfl
  rw [← e2]
  exact ho
theorem int_own {B : Nat} {p : Nat → Prop} {w : World} {o : Value} {xs : List Int} (h : w.ownsRow B 3 1 o xs.length (xs.map (Value.int .i64))) : intE.Own p B w o xs := by
  refine ⟨xs.map (fun x => [Value.int .i64 x]), by simp, ?_, fun i cs x h1 h2 => ?_⟩
  · have e2 : (xs.map (fun x => [Value.int .i64 x])).flatten = xs.map (Value.int .i64) := by
      clear h
      induction xs with
      | nil => rfl
      | cons x r ih => simp only [List.map_cons, List.flatten_cons, ih]; rfl
    rw [e2]; exact h
  · rw [List.getElem?_map, h2] at h1
    simp at h1
    exact h1.symm
theorem own_getI {B : Nat} {p : Nat → Prop} {w : World} {lo : Option Addr} {n c : Nat} {xs : List Int} (h : intE.Own p B w (.slice lo n c) xs) {j : Nat} (hj : j < xs.length) :
    ∃ g, lo = some ⟨g, 0, none⟩ ∧ B ≤ g ∧ g < w.heap.size ∧ n = xs.length ∧ w.cell? ⟨g, j, none⟩ = some (.int .i64 xs[j]) ∧ w.frozen? ⟨g, j, none⟩ = false := by
  obtain ⟨_, h2⟩ := int_css h
  rcases h2 with ⟨_, hn⟩ | ⟨g, cap, cur, e, hB, hh, hnc, hm, hsz, htk⟩
  · omega
  · simp only [Value.slice.injEq] at e
    have h4 : cur[j]? = some (.int .i64 xs[j]) := by
      have : (cur.toList.take (xs.length * 1))[j]? = some (.int .i64 xs[j]) := by rw [htk]; simp [hj]
      rw [List.getElem?_take, if_pos (by omega), Array.getElem?_toList] at this
      exact this
    exact ⟨g, e.1, hB, heap_lt hh, e.2.1, by simp [World.cell?, hh, h4], by simp [World.frozen?, hh]⟩
theorem own_frz {B : Nat} {p : Nat → Prop} {w : World} {g n c : Nat} {xs : List Int} (h : intE.Own p B w (.slice (some ⟨g, 0, none⟩) n c) xs) {j : Nat} (hj : j < xs.length) : w.frozen? ⟨g, j, none⟩ = false := by
  obtain ⟨g', e, _, _, _, _, h⟩ := own_getI h hj
  simp only [Option.some.injEq, Addr.mk.injEq, and_true] at e
  rw [e]; exact h
theorem own_setI {B g n c j : Nat} {p : Nat → Prop} {w : World} {xs : List Int} (h : intE.Own p B w (.slice (some ⟨g, 0, none⟩) n c) xs) (hj : j < xs.length) (v : Int) : intE.Own p B (w.setCell ⟨g, j, none⟩ (.int .i64 v)) (.slice (some ⟨g, 0, none⟩) n c) (xs.set j v) := by
  refine int_own ?_
  obtain ⟨h1, h2⟩ := int_css h
  refine ⟨by simp, ?_⟩
  rcases h2 with ⟨_, hn⟩ | ⟨g', cap, cur, e, hB, hh, hnc, hm, hsz, htk⟩
  · omega
  · have e' := e
    simp only [Value.slice.injEq, Option.some.injEq, Addr.mk.injEq, and_true] at e'
    obtain ⟨rfl, rfl, rfl⟩ := e'
    refine .inr ⟨g, c, cur.setIfInBounds j (.int .i64 v), by simp, hB, by simp [World.setCell, Array.getElem?_modify, hh], by simpa using hnc, hm, by simp [hsz], ?_⟩
    rw [Array.toList_setIfInBounds, List.length_set, List.map_set, ← htk]
    exact List.take_set ..
theorem St.setI {w0 w : World} {l : List Fct} (S : St w0 w l) (i : Nat) {B g n c j : Nat} {p : Nat → Prop} {xs : List Int} (hi : Fct.at l i = Fct.owns intE B p (.slice (some ⟨g, 0, none⟩) n c) xs) (hj : j < xs.length) (v : Int) (h0 : w0.heap.size ≤ g) (hoff : offs g i l) :
    St w0 (w.setCell ⟨g, j, none⟩ (.int .i64 v)) (fset l i (.owns intE B p (.slice (some ⟨g, 0, none⟩) n c) (xs.set j v))) := by
  refine ⟨S.bel.setCell (p := ⟨g, j, none⟩) h0 _, fun k => ?_⟩
  by_cases hk : k = i
  · subst hk
    rcases at_fset_same (.owns intE B p (.slice (some ⟨g, 0, none⟩) n c) (xs.set j v)) l k with h | h
    · rw [h]; exact own_setI (S.owns intE k hi) hj v
    · rw [h]; trivial
  · rw [at_fset_other _ _ _ _ hk]
    exact (Fct.at l k).stable w _ (fun b hb hl => Below.heap_setCell _ _ _ _ (fun e => offs_at hoff k hk (by rw [← show b = g from e]; exact hb))) (S.2 k)
def okB (o : List Int) (c : Nat) : Prop := ∀ i, i < o.length → 0 ≤ gT o i ∧ gT o i ≤ 3 + 4 * (c : Int)
theorem okB.set {o : List Int} {c b : Nat} {v : Int} (h : okB o c) (h1 : 0 ≤ v) (h2 : v ≤ 3 + 4 * (c : Int) + 4) : okB (o.set b v) (c + 1) := fun i hi => by
  rw [List.length_set] at hi
  have h3 := h i hi
  by_cases hb : b = i
  · subst hb; rw [gT_set_same hi]; omega
  · rw [gT_set_other hb]; omega
theorem okB.more {o : List Int} {c : Nat} (h : okB o c) : okB o (c + 1) := fun i hi => by have := h i hi; omega
theorem okB.okS {o : List Int} {c : Nat} (h : okB o c) (hc : c ≤ 200) : okS o := fun i hi => by
  have := h i hi
  rw [gT_get hi] at this
  omega
def EarlP (js : List Jb) (ws : List Wt) (w : World) (e : Ending) (w' : World) : Prop :=
  Below w.heap.size w w' ∧ ((∃ o ro sp, earliestF (froms js) ws = some o ∧ e = .returned (.tuple #[.slice ro o.length (o.length + sp), .bool true]) ∧ intE.Row (fun b => w.heap.size ≤ b) w' ro o ∧ okS o ∧ o.length = js.length) ∨ (earliestF (froms js) ws = none ∧ e = .returned (.tuple #[.slice none 0 0, .bool false])))

set_option maxRecDepth 100000 in
set_option maxHeartbeats 8000000 in
theorem earliest29 (js : List Jb) (ws : List Wt) (p q : Nat → Prop) (bp : Nat) (jo wo : Option Addr) (jc wc_ : Nat) (w : World) (hp0 : w.cell? ⟨bp, 0, none⟩ = some (.slice jo js.length jc)) (hp1 : w.cell? ⟨bp, 1, none⟩ = some (.slice wo ws.length wc_)) (hj : jobE.Row p w jo js) (hw : waitE.Row q w wo ws) (hoj : okJ js) (how : okW js.length ws) (hjn : js.length ≤ 3) (hwn : ws.length ≤ 30) :
    Calls Try.prog 29 #[.pointer (some ⟨bp, 0, none⟩)] w (EarlP js ws w) := by
  have HJ := Lib.hid hj; have HW := Lib.hid hw; have HOJ := Lib.hid hoj; have HOW := Lib.hid how; have HP0 := Lib.hid hp0; have HP1 := Lib.hid hp1
  have hji : (js.length : Int) ≤ 3 := by omega
  have hwi : (ws.length : Int) ≤ 30 := by omega
  obtain ⟨i3, gi, gz0, gz1, gz2⟩ := info_parts infoI
  obtain ⟨bx, hbx⟩ : ∃ b, b = w.heap.size := ⟨_, rfl⟩
  have S := (St.start w).add (.owns intE bx (fun _ => False) (.slice none 0 0) ((froms js).take 0)) (Elt.Own.nil _ _ _ _)
  have hz : bx ≤ w.heap.size := by omega
  have HBX := Lib.hid hbx
  have HFL := Lib.hid (froms_length js)
  clear hj hw hoj how hp1 hbx
  go_enter Try.func29, Try.ntmps29
  go_wp2_with fail
  clear hp0
  go_loopw [4, 15] (fun o i wr => ∃ k : Nat, k ≤ js.length ∧ i = .int .i64 k ∧ bx ≤ wr.heap.size ∧ St w wr [.owns intE bx (fun _ => False) o ((froms js).take k)]) (fun _ i _ => js.length - (intOf i).toNat)
  case atStart => exact ⟨0, by omega, rfl, hz, S⟩
  case round =>
    clear S hz
    obtain ⟨k, hk, rfl, hz, S⟩ := hrel
    by_cases hlt : k < js.length
    · have hlti : (k : Int) < (js.length : Int) := by omega
      obtain ⟨b, off, rfl, _, f0, f1, f2⟩ := HJ.out.job hlt
      have HT := Lib.hid (show (froms js).take (k + 1) = (froms js).take k ++ [js[k].from_] by
        rw [List.take_succ_eq_append_getElem (by rw [froms_length]; exact hlt)]; simp [froms])
      have HLT := Lib.hid (show ((froms js).take k).length = k by rw [List.length_take, froms_length]; omega)
      obtain ⟨X, hX⟩ : ∃ A, A = js[k] := ⟨_, rfl⟩
      rw [← hX] at f0 f1 f2 HT
      have c0 := Below.cellOf S.bel f0; have c1 := Below.cellOf S.bel f1; have c2 := Below.cellOf S.bel f2
      have S2 := S.alloc (.cells #[.int .i64 X.long, .int .i64 X.mach, .int .i64 X.from_] 26)
      have hz2 : bx ≤ (wr.alloc (.cells #[.int .i64 X.long, .int .i64 X.mach, .int .i64 X.from_] 26)).heap.size := by simp; omega
      clear hX f0 f1 f2 S
      go_wp2_with (at_builtin; refine wpList_app rfl (.tmp 19) (.tmp 22) 22 rfl intE S2 0 rfl (x := X.from_) (q := fun _ => False) (p' := fun _ => False) rfl Try.underlying22 gi gz0 gz1 gz2 rfl rfl ?v1 ?v2 ?c1 ?c2 ?c3 ?c4 ?c5 ?c6 ?c7 ?_)
      try (case v1 => rfl)
      try (case v2 => simp; rfl)
      case c1 => rw [HLT.out]; unfold maxLen; omega
      case c2 => rw [HLT.out]; omega
      case c3 => exact hz2
      case c4 => have := HBX.out; omega
      case c5 => intro bb h1 h2 h3; simp only [offs, offAll]
      case c6 => intro bb h; exact h.elim
      case c7 => intro bb h; rcases h with h | h <;> exact h.elim
      intro gg cap2 w3 S3 hs3 hgg hat
      rw [← HT.out] at S3
      have SB := Lib.hid S3
      have hz3 : bx ≤ w3.heap.size := by omega
      clear S2 S3 c0 c1 c2 hat
      go_wp2_with fail
      go_roundw
      case rel => exact ⟨k + 1, by omega, by go_num, hz3, by have h := SB.out; first | exact h | (rw [HLT.out] at h; exact h) | (simpa using h)⟩
      case measure => simp [intOf] <;> omega
    · obtain rfl : k = js.length := by omega
      rw [show (froms js).take js.length = froms js by rw [← froms_length js, List.take_length]] at S
      obtain ⟨lo, lsp, rfl, _, _⟩ := (show intE.Own (fun b => bx ≤ b) bx wr _ (froms js) from Elt.Own.mono (p := fun _ => False) (S.owns intE 0) (fun b h => False.elim h)).row (fun b h => h)
      obtain ⟨lc, hlc⟩ : ∃ c, c = (froms js).length + lsp := ⟨_, rfl⟩
      rw [← hlc] at S ⊢
      have HLC := Lib.hid hlc
      clear hlc
      have hp0 := Below.cellOf S.bel HP0.out
      have HB0 := Lib.hid (show okB (froms js) 0 from fun i hi => by
        rw [froms_length] at hi
        rw [froms_get hi]
        have := HOJ.out i hi
        omega)
      have hwn1 : IntKind.i64.wrap ((js.length : Int) + 1) = ((js.length + 1 : Nat) : Int) := by rw [IntWalk.i64_in _ (by omega)]; omega
      go_wp2_with fail
      clear hp0
      go_loopw [31] (fun i wr => ∃ (j : Nat) (o : List Int), j ≤ js.length + 1 ∧ i = .int .i64 j ∧ bx ≤ wr.heap.size ∧ St w wr [.owns intE bx (fun _ => False) (.slice lo (froms js).length lc) (o)] ∧ Hid (o.length = js.length ∧ earliestF (froms js) ws = roundsL ws (js.length + 1 - j) o ∧ okB o (j * ws.length))) (fun i _ => js.length + 1 - (intOf i).toNat)
      case atStart => exact ⟨0, froms js, by omega, rfl, hz, S, Lib.hid ⟨HFL.out, by unfold earliestF; rw [HFL.out]; rfl, by simpa using HB0.out⟩⟩
      case round =>
        clear S hz
        obtain ⟨j, o, hj, rfl, hz, S, HO⟩ := hrel
        by_cases hlt : j < js.length + 1
        · have hlti : (j : Int) < (js.length : Int) + 1 := by omega
          have hp1 := Below.cellOf S.bel HP1.out
          obtain ⟨wv, hwv⟩ : ∃ W, W = wr := ⟨_, rfl⟩
          subst hwv
          go_wp2_with fail
          clear hp1
          go_loopw [7, 38] (fun t i wr => ∃ (k : Nat) (o' : List Int) (ch : Bool), k ≤ ws.length ∧ i = .int .i64 k ∧ t = .bool ch ∧ bx ≤ wr.heap.size ∧ St w wr [.owns intE bx (fun _ => False) (.slice lo (froms js).length lc) (o')] ∧ Hid (o'.length = js.length ∧ relaxL (ws.take k) o false = (o', ch) ∧ okB o' (j * ws.length + k))) (fun _ i _ => ws.length - (intOf i).toNat)
          case atStart => exact ⟨0, o, false, by omega, rfl, rfl, hz, S, Lib.hid ⟨HO.out.1, by simp [relaxL], HO.out.2.2⟩⟩
          case round =>
            clear S hz
            obtain ⟨k, o', ch, hk, rfl, rfl, hz, S, HR⟩ := hrel
            by_cases hlt2 : k < ws.length
            · have hlti2 : (k : Int) < (ws.length : Int) := by omega
              obtain ⟨b, off, rfl, _, f0, f1, f2⟩ := HW.out.wait hlt2
              obtain ⟨h1, h2, h3, h4⟩ := HOW.out k hlt2
              have HTS := Lib.hid (show relaxL (ws.take (k + 1)) o false = if gT o' ws[k].b < gT o' ws[k].a + ws[k].by_ then (o'.set ws[k].b (gT o' ws[k].a + ws[k].by_), true) else (o', ch) by
                rw [List.take_succ_eq_append_getElem hlt2, relaxL_snoc, HR.out.2.1])
              obtain ⟨X, hX⟩ : ∃ A, A = ws[k] := ⟨_, rfl⟩
              rw [← hX] at f0 f1 f2 h1 h2 h3 h4 HTS
              obtain ⟨A, hA⟩ : ∃ A, A = X.a := ⟨_, rfl⟩
              obtain ⟨B, hB⟩ : ∃ A, A = X.b := ⟨_, rfl⟩
              obtain ⟨D, hD⟩ : ∃ A, A = X.by_ := ⟨_, rfl⟩
              rw [← hA] at f0 h1 HTS
              rw [← hB] at f1 h2 HTS
              rw [← hD] at f2 h3 h4 HTS
              have hao : A < o'.length := by rw [HR.out.1]; exact h1
              have hbo : B < o'.length := by rw [HR.out.1]; exact h2
              obtain ⟨gg, rfl, hgb, _, hgl, d0, d1⟩ := own_getI (S.owns intE 0) hao
              obtain ⟨gg', he, _, _, hgl2, d2, d3⟩ := own_getI (S.owns intE 0) hbo
              simp only [Option.some.injEq, Addr.mk.injEq, and_true] at he
              subst he
              have hu1 := (HR.out.2.2 A hao)
              have hv1 := (HR.out.2.2 B hbo)
              have hcc : j * ws.length + k ≤ 120 := by
                have h9 : j * ws.length ≤ 3 * 30 := Nat.mul_le_mul (by omega) hwn
                omega
              obtain ⟨U, hU⟩ : ∃ z, z = o'[A] := ⟨_, rfl⟩
              obtain ⟨V, hV⟩ : ∃ z, z = o'[B] := ⟨_, rfl⟩
              rw [gT_get hao, gT_get hbo, ← hU, ← hV] at HTS
              rw [gT_get hao, ← hU] at hu1
              rw [gT_get hbo, ← hV] at hv1
              rw [← hU] at d0
              rw [← hV] at d2
              obtain ⟨hu0, hu1⟩ := hu1
              obtain ⟨hv0, hv1⟩ := hv1
              have hu2 : U ≤ 1000 := by omega
              have hv2 : V ≤ 1000 := by omega
              have HOK := Lib.hid HR.out.2.2
              have HOL := Lib.hid HR.out.1
              have HUB := Lib.hid hu1
              have hfl : ((froms js).length : Int) = (js.length : Int) := by rw [HFL.out]
              have hai : (A : Int) < ((froms js).length : Int) := by omega
              have hbi : (B : Int) < ((froms js).length : Int) := by omega
              have c0 := Below.cellOf S.bel f0; have c1 := Below.cellOf S.bel f1; have c2 := Below.cellOf S.bel f2
              have HG := Lib.hid (And.intro d0 (And.intro d2 d3))
              have HXX := Lib.hid (show w.heap.size ≤ gg by have := HBX.out; omega)
              clear hX hA hB hD hU hV f0 f1 f2 d0 d1 d2 d3 HR hu1 hv1 hgl hgl2 hfl
              obtain ⟨bt, hbt⟩ : ∃ b, b = wr.heap.size := ⟨_, rfl⟩
              have S2 := S.box hbt.symm #[.int .i64 (A : Int), .int .i64 (B : Int), .int .i64 D] 29
              have HGB := Lib.hid (show gg < bt by have := (S.ownlt intE 0 rfl gg (by simp [Value.ownBlock])).2; omega)
              have hz2 : bx ≤ (wr.alloc (.cells #[.int .i64 (A : Int), .int .i64 (B : Int), .int .i64 D] 29)).heap.size := by simp; omega
              have HAL := Lib.hid (show Below wr.heap.size wr (wr.alloc (.cells #[.int .i64 (A : Int), .int .i64 (B : Int), .int .i64 D] 29)) from (Below.refl _ wr).alloc (Nat.le_refl _) _)
              go_wp2_with fail
              rw [← hbt]
              have d0 := Below.cellOf HAL.out HG.out.1; have d2 := Below.cellOf HAL.out HG.out.2.1
              clear c0 c1 c2 hbt S HG HAL
              generalize wr.alloc (.cells #[.int .i64 (A : Int), .int .i64 (B : Int), .int .i64 D] 29) = w4 at S2 hz2 d0 d2 ⊢
              have qa := cell_regrown (S2.cell 1 0 rfl).1; have qb := cell_regrown (S2.cell 1 1 rfl).1; have qc := cell_regrown (S2.cell 1 2 rfl).1
              have qd := cell_regrown d0; have qe := cell_regrown d2
              refine wp_region_quiet_below (by kernel_rfl) (by kernel_rfl) ?_
              repeat (go_big_quiet_step (fail))
              refine wpQuiet_nil ?_
              intro _ hw'
              obtain ⟨⟨dq, osq⟩, hw''⟩ := hw'
              subst hw''
              have S3 := S2.regrown dq osq
              have hz3 : bx ≤ (Go.Sort.grow (redrawn w4 dq) osq).heap.size := Nat.le_trans hz2 (below_regrown w4 dq osq).size
              have e0 := Below.cellOf (below_regrown w4 dq osq) d0
              have e2 := Below.cellOf (below_regrown w4 dq osq) d2
              clear qa qb qc qd qe S2 d0 d2
              generalize Go.Sort.grow (redrawn w4 dq) osq = w5 at S3 hz3 e0 e2 ⊢
              by_cases hgt : V < U + D
              · have HTN := Lib.hid (show relaxL (ws.take (k + 1)) o false = (o'.set B (U + D), true) by rw [HTS.out, if_pos hgt])
                have HBN := Lib.hid (show okB (o'.set B (U + D)) (j * ws.length + (k + 1)) from HOK.out.set (by omega) (by have := HUB.out; omega))
                have d3 := own_frz (S3.owns intE 0) hbo
                have hwr : IntKind.i64.wrap (U + D) = U + D := IntWalk.i64_in _ (by omega)
                go_wp2_with fail
                have SD := S3.drew
                have FC := Lib.hid (fun W (hb : Below w5.heap.size w5 W) => (⟨Below.cellOf hb (S3.cell 1 0 rfl).1, Below.cellOf hb (S3.cell 1 1 rfl).1, Below.cellOf hb (S3.cell 1 2 rfl).1, Below.cellOf hb e0⟩ : (fun W => W.cell? ⟨bt, 0, none⟩ = some (.int .i64 (A : Int)) ∧ W.cell? ⟨bt, 1, none⟩ = some (.int .i64 (B : Int)) ∧ W.cell? ⟨bt, 2, none⟩ = some (.int .i64 D) ∧ W.cell? ⟨gg, A, none⟩ = some (.int .i64 U)) W))
                clear S3 e0
                refine wpH_region [12, 13] (fun W => W.cell? ⟨bt, 0, none⟩ = some (.int .i64 (A : Int)) ∧ W.cell? ⟨bt, 1, none⟩ = some (.int .i64 (B : Int)) ∧ W.cell? ⟨bt, 2, none⟩ = some (.int .i64 D) ∧ W.cell? ⟨gg, A, none⟩ = some (.int .i64 U)) (by kernel_rfl) ?_
                have HS := FC.out _ (Below.refl _ w5).drew
                refine wpH.take (i := 0) (by kernel_rfl) (by kernel_rfl) (by kernel_rfl) (by kernel_rfl) (by kernel_rfl) HS ?_
                intro oi ho
                simp only [List.getElem?_toArray, List.getElem?_cons_zero, Option.some.injEq] at ho
                subst ho
                refine ⟨?_, Or.inl ⟨by rfl, ?_⟩, fun _ _ _ h => h, ?_⟩
                rotate_left 1
                · intro W hW
                  try dsimp only at hW
                  go_simp
                  try with_reducible rfl
                simp only [Act.put, List.setIfInBounds_toArray, List.set_cons_zero, List.set_cons_succ]
                refine wpH.take (i := 1) (by kernel_rfl) (by kernel_rfl) (by kernel_rfl) (by kernel_rfl) (by kernel_rfl) HS ?_
                intro oi ho
                simp only [List.getElem?_toArray, List.getElem?_cons_succ, List.getElem?_cons_zero, Option.some.injEq] at ho
                subst ho
                refine ⟨?_, Or.inl ⟨by rfl, ?_⟩, fun _ _ _ h => h, ?_⟩
                rotate_left 1
                · intro W hW
                  try dsimp only at hW
                  go_simp
                  try with_reducible rfl
                simp only [Act.put, List.setIfInBounds_toArray, List.set_cons_zero, List.set_cons_succ]
                refine wpH.take (i := 2) (by kernel_rfl) (by kernel_rfl) (by kernel_rfl) (by kernel_rfl) (by kernel_rfl) HS ?_
                intro oi ho
                simp only [List.getElem?_toArray, List.getElem?_cons_succ, List.getElem?_cons_zero, Option.some.injEq] at ho
                subst ho
                refine ⟨?_, Or.inl ⟨by rfl, ?_⟩, fun _ _ _ h => h, ?_⟩
                rotate_left 1
                · intro W hW
                  try dsimp only at hW
                  go_simp
                  try with_reducible rfl
                simp only [Act.put, List.setIfInBounds_toArray, List.set_cons_zero, List.set_cons_succ]
                refine wpH.take (i := 3) (by kernel_rfl) (by kernel_rfl) (by kernel_rfl) (by kernel_rfl) (by kernel_rfl) HS ?_
                intro oi ho
                simp only [List.getElem?_toArray, List.getElem?_cons_succ, List.getElem?_cons_zero, Option.some.injEq] at ho
                subst ho
                refine ⟨?_, Or.inl ⟨by rfl, ?_⟩, fun _ _ _ h => h, ?_⟩
                rotate_left 1
                · intro W hW
                  try dsimp only at hW
                  go_simp
                  try with_reducible rfl
                simp only [Act.put, List.setIfInBounds_toArray, List.set_cons_zero, List.set_cons_succ]
                refine wpH.take (i := 4) (by kernel_rfl) (by kernel_rfl) (by kernel_rfl) (by kernel_rfl) (by kernel_rfl) HS ?_
                intro oi ho
                simp only [List.getElem?_toArray, List.getElem?_cons_succ, List.getElem?_cons_zero, Option.some.injEq] at ho
                subst ho
                refine ⟨?_, Or.inl ⟨by rfl, ?_⟩, fun _ _ _ h => h, ?_⟩
                rotate_left 1
                · intro W hW
                  try dsimp only at hW
                  go_simp
                  try with_reducible rfl
                simp only [Act.put, List.setIfInBounds_toArray, List.set_cons_zero, List.set_cons_succ]
                refine wpH.take (i := 5) (by kernel_rfl) (by kernel_rfl) (by kernel_rfl) (by kernel_rfl) (by kernel_rfl) HS ?_
                intro oi ho
                simp only [List.getElem?_toArray, List.getElem?_cons_succ, List.getElem?_cons_zero, Option.some.injEq] at ho
                subst ho
                refine ⟨?_, Or.inl ⟨by rfl, ?_⟩, fun _ _ _ h => h, ?_⟩
                rotate_left 1
                · intro W hW
                  try dsimp only at hW
                  go_simp
                  try with_reducible rfl
                simp only [Act.put, List.setIfInBounds_toArray, List.set_cons_zero, List.set_cons_succ]
                refine wpH.take (i := 6) (by kernel_rfl) (by kernel_rfl) (by kernel_rfl) (by kernel_rfl) (by kernel_rfl) HS ?_
                intro oi ho
                simp only [List.getElem?_toArray, List.getElem?_cons_succ, List.getElem?_cons_zero, Option.some.injEq] at ho
                subst ho
                refine ⟨?_, Or.inl ⟨by rfl, ?_⟩, fun _ _ _ h => h, ?_⟩
                rotate_left 1
                · intro W hW
                  try dsimp only at hW
                  go_simp
                  try with_reducible rfl
                simp only [Act.put, List.setIfInBounds_toArray, List.set_cons_zero, List.set_cons_succ]
                refine wpH.take (i := 7) (by kernel_rfl) (by kernel_rfl) (by kernel_rfl) (by kernel_rfl) (by kernel_rfl) HS ?_
                intro oi ho
                simp only [List.getElem?_toArray, List.getElem?_cons_succ, List.getElem?_cons_zero, Option.some.injEq] at ho
                subst ho
                refine ⟨?_, Or.inl ⟨by rfl, ?_⟩, fun _ _ _ h => h, ?_⟩
                rotate_left 1
                · intro W hW
                  try dsimp only at hW
                  go_simp
                  try with_reducible rfl
                simp only [Act.put, List.setIfInBounds_toArray, List.set_cons_zero, List.set_cons_succ]
                refine wpH.take (i := 8) (by kernel_rfl) (by kernel_rfl) (by kernel_rfl) (by kernel_rfl) (by kernel_rfl) HS ?_
                intro oi ho
                simp only [List.getElem?_toArray, List.getElem?_cons_succ, List.getElem?_cons_zero, Option.some.injEq] at ho
                subst ho
                refine ⟨?_, Or.inl ⟨by rfl, ?_⟩, fun _ _ _ h => h, ?_⟩
                rotate_left 1
                · intro W hW
                  try dsimp only at hW
                  go_simp
                  try with_reducible rfl
                simp only [Act.put, List.setIfInBounds_toArray, List.set_cons_zero, List.set_cons_succ]
                refine wpH.take (i := 9) (by kernel_rfl) (by kernel_rfl) (by kernel_rfl) (by kernel_rfl) (by kernel_rfl) HS ?_
                intro oi ho
                simp only [List.getElem?_toArray, List.getElem?_cons_succ, List.getElem?_cons_zero, Option.some.injEq] at ho
                subst ho
                refine ⟨?_, Or.inl ⟨by rfl, ?_⟩, fun _ _ _ h => h, ?_⟩
                rotate_left 1
                · intro W hW
                  try dsimp only at hW
                  go_simp
                  try with_reducible rfl
                simp only [Act.put, List.setIfInBounds_toArray, List.set_cons_zero, List.set_cons_succ]
                refine wpH.take (i := 10) (by kernel_rfl) (by kernel_rfl) (by kernel_rfl) (by kernel_rfl) (by kernel_rfl) HS ?_
                intro oi ho
                simp only [List.getElem?_toArray, List.getElem?_cons_succ, List.getElem?_cons_zero, Option.some.injEq] at ho
                subst ho
                refine ⟨?_, Or.inl ⟨by rfl, ?_⟩, fun _ _ _ h => h, ?_⟩
                rotate_left 1
                · intro W hW
                  try dsimp only at hW
                  go_simp
                  try with_reducible rfl
                simp only [Act.put, List.setIfInBounds_toArray, List.set_cons_zero, List.set_cons_succ]
                refine wpH.take (i := 11) (by kernel_rfl) (by kernel_rfl) (by kernel_rfl) (by kernel_rfl) (by kernel_rfl) HS ?_
                intro oi ho
                simp only [List.getElem?_toArray, List.getElem?_cons_succ, List.getElem?_cons_zero, Option.some.injEq] at ho
                subst ho
                refine ⟨?_, Or.inl ⟨by rfl, ?_⟩, fun _ _ _ h => h, ?_⟩
                rotate_left 1
                · intro W hW
                  try dsimp only at hW
                  go_simp
                  try with_reducible rfl
                simp only [Act.put, List.setIfInBounds_toArray, List.set_cons_zero, List.set_cons_succ]
                refine wpH.one (i := 12) (by kernel_rfl) ?_
                intro oi ho
                simp only [List.getElem?_toArray, List.getElem?_cons_succ, List.getElem?_cons_zero, Option.some.injEq] at ho
                subst ho
                intro K' hK
                have HK := Lib.hid hK
                clear hK
                go_simp
                have SF := St.setI SD 0 rfl hbo (U + D) HXX.out (by simp only [fsnoc, offs, offAll, Fct.box, and_true]; have := HGB.out; omega)
                refine HK.out _ _ (fun h => absurd h (by decide)) ?_
                try simp only [Act.put, List.setIfInBounds_toArray, List.set_cons_zero, List.set_cons_succ]
                refine wpH.one (i := 13) (by kernel_rfl) ?_
                intro oi ho
                simp only [List.getElem?_toArray, List.getElem?_cons_succ, List.getElem?_cons_zero, Option.some.injEq] at ho
                subst ho
                intro K' hK
                have HK := Lib.hid hK
                clear hK
                go_simp
                refine HK.out _ _ (fun h => absurd h (by decide)) ?_
                try simp only [Act.put, List.setIfInBounds_toArray, List.set_cons_zero, List.set_cons_succ]
                refine wpH.done (by kernel_rfl) ?_
                have SB := Lib.hid (SF.pick [0])
                have hz4 : bx ≤ ((w5.drew).setCell ⟨gg, B, none⟩ (.int .i64 (U + D))).heap.size := by simp; omega
                clear SF SD HS hwr d3 e2
                go_wp2_with fail
                go_roundw
                case rel => exact ⟨k + 1, o'.set B (U + D), true, by omega, by go_num, rfl, hz4, SB.out, Lib.hid ⟨by rw [List.length_set]; exact HOL.out, HTN.out, HBN.out⟩⟩
                case measure => simp [intOf] <;> omega
              · have HTN := Lib.hid (show relaxL (ws.take (k + 1)) o false = (o', ch) by rw [HTS.out, if_neg hgt])
                have SB := Lib.hid (S3.pick [0])
                clear S3 e0 e2
                go_wp2_with fail
                go_roundw
                case rel => exact ⟨k + 1, o', ch, by omega, by go_num, rfl, hz3, SB.out, Lib.hid ⟨HOL.out, HTN.out, HOK.out.more⟩⟩
                case measure => simp [intOf] <;> omega
            · obtain rfl : k = ws.length := by omega
              rw [List.take_length] at HR
              have HE := Lib.hid (show earliestF (froms js) ws = if ch = true then roundsL ws (js.length + 1 - (j + 1)) o' else some o' by
                rw [HO.out.2.1, show js.length + 1 - j = (js.length + 1 - (j + 1)) + 1 by omega, roundsL, HR.out.2.1])
              have HOK := Lib.hid (show okB o' ((j + 1) * ws.length) by rw [Nat.add_mul, Nat.one_mul]; exact HR.out.2.2)
              have HOL := Lib.hid HR.out.1
              have SB := Lib.hid S
              clear S
              cases ch with
              | true =>
                go_wp2_with fail
                go_roundw
                case rel => exact ⟨j + 1, o', by omega, by go_num, hz, SB.out, Lib.hid ⟨HOL.out, by rw [HE.out, if_pos rfl], HOK.out⟩⟩
                case measure => simp [intOf] <;> omega
              | false =>
                obtain ⟨ro, rsp, hrv, hrow, _⟩ := (show intE.Own (fun b => bx ≤ b) bx wr _ o' from Elt.Own.mono (p := fun _ => False) (SB.out.owns intE 0) (fun b h => False.elim h)).row (fun b h => h)
                have HRV := Lib.hid hrv
                have HRW := Lib.hid hrow
                have hcc : (j + 1) * ws.length ≤ 200 := by
                  have h9 : (j + 1) * ws.length ≤ 4 * 30 := Nat.mul_le_mul (by omega) hwn
                  omega
                clear hrv hrow
                go_wp2_with fail
                go_ret2
                refine ⟨SB.out.bel, .inl ⟨o', ro, rsp, by rw [HE.out, if_neg (by simp)], by rw [HRV.out]; rfl, ?_, HOK.out.okS hcc, HOL.out⟩⟩
                rw [← HBX.out]; exact HRW.out
        · obtain rfl : j = js.length + 1 := by omega
          have HE := Lib.hid (show earliestF (froms js) ws = none by rw [HO.out.2.1, Nat.sub_self, roundsL])
          have SB := Lib.hid S.bel
          clear S
          go_wp2_with fail
          go_ret2
          exact ⟨SB.out, .inr ⟨HE.out, rfl⟩⟩
end Go.Proofs.Ytacaakcpkgipfaa
