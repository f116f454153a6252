/-
  Walks: slices.IndexFunc and ContainsFunc over integers and over rows of integers; cnf.Var, cnf.Bad and cnf.Check of good clauses.
-/
import Derived.Test.YtlpoedjipncbhaaProg
import Derived.Test.YtlpoedjipncbhaaTd4
import Derived.RegionTactic
import Derived.BigQuiet
import Derived.Deep.DeepCutAuto
namespace Go.Proofs.Ytlpoedjipncbhaa
open Go.RowKit Go.Shelf
set_option linter.unusedVariables false
set_option maxHeartbeats 400000

/-- a row of integers as an element -/
def intsE : Elt (List Int) where
  ty := 22
  n := 1
  is p w cs a := ∃ k sp, cs = [.slice k a.length (a.length + sp)] ∧ intE.Row p w k a ∧ a.length ≤ maxLen
  pos := by omega
  len := fun ⟨k, sp, e, _⟩ => by rw [e]; rfl
  one := fun ⟨k, sp, e, _⟩ u hu => by rw [e] at hu; simp at hu; subst hu; rfl
  keep := fun hk ⟨k, sp, e, h, h2⟩ => ⟨k, sp, e, h.keep hk, h2⟩
theorem Elt.Row.ints {p : Nat → Prop} {w : World} {ao : Option Addr} {cs : List (List Int)} (h : intsE.Row p w ao cs) {i : Nat} (hi : i < cs.length) : ∃ b off k sp, ao = some ⟨b, off, none⟩ ∧ p b ∧
    w.cell? ⟨b, off + i, none⟩ = some (.slice k cs[i].length (cs[i].length + sp)) ∧ intE.Row p w k cs[i] ∧ cs[i].length ≤ maxLen := by
  obtain ⟨b, off, c, e, hp, hc, k, sp, rfl, h1, h2⟩ := h i cs[i] (List.getElem?_eq_getElem hi)
  exact ⟨b, off, k, sp, e, hp, by have := hc 0 _ rfl; simpa [intsE] using this, h1, h2⟩
/-- of a list: the first that is so -/
def idxP {α : Type} (P : α → Bool) (l : List α) : Int := firstZ (fun i => (l[i]?).elim false P) l.length
theorem idxP_hit {α : Type} {P : α → Bool} {l : List α} {k : Nat} (hk : k < l.length) (hno : ∀ (j : Nat) x, j < k → l[j]? = some x → P x = false) (hp : P l[k] = true) : idxP P l = k :=
  firstZ_hit hk (fun j hj => by rw [List.getElem?_eq_getElem (by omega)]; exact hno j _ hj (List.getElem?_eq_getElem (by omega))) (by rw [List.getElem?_eq_getElem hk]; exact hp)
theorem idxP_none {α : Type} {P : α → Bool} {l : List α} (hno : ∀ (j : Nat) x, j < l.length → l[j]? = some x → P x = false) : idxP P l = -1 :=
  firstZ_none (fun j hj => by rw [List.getElem?_eq_getElem hj]; exact hno j _ hj (List.getElem?_eq_getElem hj))
theorem idxP_any {α : Type} {P : α → Bool} {l : List α} : (0 ≤ idxP P l) ↔ l.any P = true := by
  unfold idxP
  rw [firstZ_nonneg, anyB_iff, List.any_eq_true]
  constructor
  · rintro ⟨j, hj, h⟩
    rw [List.getElem?_eq_getElem hj] at h
    exact ⟨l[j], List.getElem_mem hj, h⟩
  · rintro ⟨x, hx, h⟩
    obtain ⟨j, hj, rfl⟩ := List.getElem_of_mem hx
    exact ⟨j, hj, by rw [List.getElem?_eq_getElem hj]; exact h⟩
theorem no_step {α : Type} {P : α → Bool} {l : List α} {k : Nat} (hk : k < l.length) (hno : ∀ (j : Nat) x, j < k → l[j]? = some x → P x = false) (hp : P l[k] = false) : ∀ (j : Nat) x, j < k + 1 → l[j]? = some x → P x = false := by
  intro j x hj hx
  by_cases e : j = k
  · subst e
    rw [List.getElem?_eq_getElem hk] at hx
    cases hx
    exact hp
  · exact hno j x (by omega) hx

set_option maxRecDepth 100000 in
theorem idxI53 (fn : Nat) (cap : Array Value) (eg : ∀ args w, (callFunc fn args).run Try.prog w = .ok (.enter fn args) w)
    (p : Nat → Prop) (ao : Option Addr) (xs : List Int) (cp : Nat) (P : Int → Bool) (w : World) (hn : xs.length ≤ maxLen) (hc : intE.Row p w ao xs)
    (hf : ∀ (i : Nat) x w1, xs[i]? = some x → Below w.heap.size w w1 → Calls Try.prog fn (#[.int .i64 x] ++ cap) w1 fun e w2 => e = .returned (.bool (P x)) ∧ Below w1.heap.size w1 w2) :
    Calls Try.prog 62 #[.slice ao xs.length cp, .func (.func fn) #[] cap] w fun e w' => e = .returned (.int .i64 (idxP P xs)) ∧ Below w.heap.size w w' := by
  have HF := Lib.hid hf
  have HC := Lib.hid hc
  have hn' : xs.length ≤ 9223372036854775807 := by unfold maxLen at hn; omega
  clear hf hc hn
  go_enter Try.func62, Try.ntmps62
  go_wp2
  go_loopw [5, 8] (fun _ i wr => ∃ k : Nat, k ≤ xs.length ∧ i = .int .i64 k ∧ (∀ (j : Nat) x, j < k → xs[j]? = some x → P x = false) ∧ Below w.heap.size w wr) (fun _ i _ => xs.length - (intOf i).toNat)
  case atStart => exact ⟨0, Nat.zero_le _, rfl, fun j x hj _ => by omega, Below.refl _ _⟩
  case round =>
    obtain ⟨k, hk, rfl, hno, hbel⟩ := hrel
    have HN := Lib.hid hno
    clear hno
    by_cases hlt : k < xs.length
    · obtain ⟨b, off, rfl, hpb, c1⟩ := (HC.out.kept hbel).int hlt
      have HX := Lib.hid (List.getElem?_eq_getElem hlt)
      go_wp2_with fail
      refine (HF.out k _ _ HX.out hbel).mono ?_
      rintro e w1 ⟨rfl, hb1⟩
      have hbel1 := Below.step hbel hb1
      cases hp : P xs[k] with
      | true =>
        have HP := Lib.hid hp; clear hp
        go_wp2
        go_ret
        exact ⟨ret_int (idxP_hit hlt HN.out HP.out).symm, hbel1⟩
      | false =>
        have HP := Lib.hid (no_step hlt HN.out hp); clear hp
        go_wp2
        go_roundw
        case rel => exact ⟨k + 1, by omega, by go_num, HP.out, hbel1⟩
        case measure => simp [intOf] <;> omega
    · obtain rfl : k = xs.length := by omega
      go_wp2
      go_ret
      exact ⟨ret_int (idxP_none HN.out).symm, hbel⟩
set_option maxRecDepth 100000 in
theorem contI46 (fn : Nat) (cap : Array Value) (eg : ∀ args w, (callFunc fn args).run Try.prog w = .ok (.enter fn args) w)
    (p : Nat → Prop) (ao : Option Addr) (xs : List Int) (cp : Nat) (P : Int → Bool) (w : World) (hn : xs.length ≤ maxLen) (hc : intE.Row p w ao xs)
    (hf : ∀ (i : Nat) x w1, xs[i]? = some x → Below w.heap.size w w1 → Calls Try.prog fn (#[.int .i64 x] ++ cap) w1 fun e w2 => e = .returned (.bool (P x)) ∧ Below w1.heap.size w1 w2) :
    Calls Try.prog 39 #[.slice ao xs.length cp, .func (.func fn) #[] cap] w fun e w' => e = .returned (.bool (xs.any P)) ∧ Below w.heap.size w w' := by
  have H := Lib.hid (idxI53 fn cap eg p ao xs cp P w hn hc hf)
  clear hf hc eg hn
  go_enter Try.func39, Try.ntmps39
  go_wp2_with fail
  refine H.out.mono ?_
  rintro e w1 ⟨rfl, hb1⟩
  go_wp2
  go_ret
  refine ⟨ret_bool ?_, hb1⟩
  rw [Bool.eq_iff_iff, ← idxP_any]; simp

set_option maxRecDepth 100000 in
theorem idxR49 (fn : Nat) (cap : Array Value) (eg : ∀ args w, (callFunc fn args).run Try.prog w = .ok (.enter fn args) w)
    (p : Nat → Prop) (ao : Option Addr) (xs : List (List Int)) (cp : Nat) (P : List Int → Bool) (w : World) (hn : xs.length ≤ maxLen) (hc : intsE.Row p w ao xs)
    (hf : ∀ (i : Nat) x k sp w1, xs[i]? = some x → Below w.heap.size w w1 → intE.Row p w1 k x → x.length ≤ maxLen → Calls Try.prog fn (#[.slice k x.length (x.length + sp)] ++ cap) w1 fun e w2 => e = .returned (.bool (P x)) ∧ Below w1.heap.size w1 w2) :
    Calls Try.prog 70 #[.slice ao xs.length cp, .func (.func fn) #[] cap] w fun e w' => e = .returned (.int .i64 (idxP P xs)) ∧ Below w.heap.size w w' := by
  have HF := Lib.hid hf
  have HC := Lib.hid hc
  have hn' : xs.length ≤ 9223372036854775807 := by unfold maxLen at hn; omega
  clear hf hc hn
  go_enter Try.func70, Try.ntmps70
  go_wp2
  go_loopw [5, 8] (fun _ i wr => ∃ k : Nat, k ≤ xs.length ∧ i = .int .i64 k ∧ (∀ (j : Nat) x, j < k → xs[j]? = some x → P x = false) ∧ Below w.heap.size w wr) (fun _ i _ => xs.length - (intOf i).toNat)
  case atStart => exact ⟨0, Nat.zero_le _, rfl, fun j x hj _ => by omega, Below.refl _ _⟩
  case round =>
    obtain ⟨k, hk, rfl, hno, hbel⟩ := hrel
    have HN := Lib.hid hno
    clear hno
    by_cases hlt : k < xs.length
    · obtain ⟨b, off, ko, sp, rfl, hpb, c1, h1, h2⟩ := (HC.out.kept hbel).ints hlt
      have HX := Lib.hid (List.getElem?_eq_getElem hlt)
      have H1 := Lib.hid h1; have H2 := Lib.hid h2
      clear h1 h2
      go_wp2_with fail
      refine (HF.out k _ _ _ _ HX.out hbel H1.out H2.out).mono ?_
      rintro e w1 ⟨rfl, hb1⟩
      have hbel1 := Below.step hbel hb1
      cases hp : P xs[k] with
      | true =>
        have HP := Lib.hid hp; clear hp
        go_wp2
        go_ret
        exact ⟨ret_int (idxP_hit hlt HN.out HP.out).symm, hbel1⟩
      | false =>
        have HP := Lib.hid (no_step hlt HN.out hp); clear hp
        go_wp2
        go_roundw
        case rel => exact ⟨k + 1, by omega, by go_num, HP.out, hbel1⟩
        case measure => simp [intOf] <;> omega
    · obtain rfl : k = xs.length := by omega
      go_wp2
      go_ret
      exact ⟨ret_int (idxP_none HN.out).symm, hbel⟩
set_option maxRecDepth 100000 in
theorem contR37 (fn : Nat) (cap : Array Value) (eg : ∀ args w, (callFunc fn args).run Try.prog w = .ok (.enter fn args) w)
    (p : Nat → Prop) (ao : Option Addr) (xs : List (List Int)) (cp : Nat) (P : List Int → Bool) (w : World) (hn : xs.length ≤ maxLen) (hc : intsE.Row p w ao xs)
    (hf : ∀ (i : Nat) x k sp w1, xs[i]? = some x → Below w.heap.size w w1 → intE.Row p w1 k x → x.length ≤ maxLen → Calls Try.prog fn (#[.slice k x.length (x.length + sp)] ++ cap) w1 fun e w2 => e = .returned (.bool (P x)) ∧ Below w1.heap.size w1 w2) :
    Calls Try.prog 63 #[.slice ao xs.length cp, .func (.func fn) #[] cap] w fun e w' => e = .returned (.bool (xs.any P)) ∧ Below w.heap.size w w' := by
  have H := Lib.hid (idxR49 fn cap eg p ao xs cp P w hn hc hf)
  clear hf hc eg hn
  go_enter Try.func63, Try.ntmps63
  go_wp2_with fail
  refine H.out.mono ?_
  rintro e w1 ⟨rfl, hb1⟩
  go_wp2
  go_ret
  refine ⟨ret_bool ?_, hb1⟩
  rw [Bool.eq_iff_iff, ← idxP_any]; simp

theorem var48 (x : Int) (w : World) (hx : x.natAbs ≤ 1000) : Calls Try.prog 38 #[.int .i64 x] w fun e w' => e = .returned (.int .i64 x.natAbs) ∧ w' = w := by
  go_enter Try.func38, Try.ntmps38
  go_wp2
  · go_ret
    exact ⟨ret_int (by omega), by first | rfl | trivial⟩
  · go_ret
    exact ⟨ret_int (by omega), by first | rfl | trivial⟩
set_option maxRecDepth 100000 in
theorem bad47 (y x : Int) (b : Nat) (w : World) (hx : x.natAbs ≤ 1000) (hy : y.natAbs ≤ 1000) (hc : w.cell? ⟨b, 0, none⟩ = some (.int .i64 x)) :
    Calls Try.prog 40 #[.int .i64 y, .pointer (some ⟨b, 0, none⟩)] w fun e w' => e = .returned (.bool (y.natAbs == x.natAbs)) ∧ Below w.heap.size w w' := by
  have CA := Lib.hid (fun d os => Calls.regrown_of ((var48 y (Go.Sort.grow (redrawn w d) os) hy).mono fun e w' h => ⟨h.1, by rw [h.2]; exact Below.refl _ _⟩))
  have CB := Lib.hid (fun d os => Calls.regrown_of ((var48 x (Go.Sort.grow (redrawn w d) os) hx).mono fun e w' h => ⟨h.1, by rw [h.2]; exact Below.refl _ _⟩))
  have SW := Lib.hid (fun d os => below_regrown w d os)
  have HB := Lib.hid (show ((y.natAbs : Int) == (x.natAbs : Int)) = (y.natAbs == x.natAbs) by rw [Bool.eq_iff_iff]; simp; omega)
  obtain ⟨u, hu⟩ : ∃ z, z = (y.natAbs : Int) := ⟨_, rfl⟩
  obtain ⟨v, hv⟩ : ∃ z, z = (x.natAbs : Int) := ⟨_, rfl⟩
  rw [← hu] at CA HB; rw [← hv] at CB HB
  have q0 := cell_regrown hc
  clear hu hv hc hx hy
  go_enter Try.func40, Try.ntmps40
  go_wp2_with fail
  refine wp_region_quiet_below (by kernel_rfl) (by kernel_rfl) ?_
  repeat (go_big_quiet_step (first | with_reducible exact CA.out _ _ | with_reducible exact CB.out _ _))
  refine wpQuiet_nil ?_
  intro _ hw'
  obtain ⟨⟨dq, osq⟩, hw''⟩ := hw'
  subst hw''
  go_wp2_with fail
  go_ret
  exact ⟨ret_bool HB.out, SW.out _ _⟩

set_option maxRecDepth 100000 in
set_option maxHeartbeats 4000000 in
theorem bad34 (n : Nat) (p : Nat → Prop) (ao : Option Addr) (c : List Int) (sp : Nat) (w : World) (hG : GoodC n c) (hc : intE.Row p w ao c) (hn : n ≤ 1000) :
    Calls Try.prog 21 #[.slice ao c.length (c.length + sp), .int .i64 n] w fun e w' => e = .returned (.tuple #[.int .i64 0, .int .i64 0]) ∧ Below w.heap.size w w' := by
  have HC := Lib.hid hc
  have HG := Lib.hid hG
  have hl3 := hG.len
  obtain ⟨m, hm⟩ : ∃ m, m = c.length := ⟨_, rfl⟩
  obtain ⟨cp, hcp⟩ : ∃ m, m = c.length + sp := ⟨_, rfl⟩
  rw [← hcp, ← hm]
  have hmc : m ≤ cp := by omega
  rw [← hm] at hl3
  have HM := Lib.hid hm
  clear hc hG hm hcp
  go_enter Try.func21, Try.ntmps21
  go_wp2_with fail
  go_loopw [10] (fun i wr => ∃ k : Nat, k ≤ m ∧ i = .int .i64 k ∧ Below w.heap.size w wr) (fun i _ => m - (intOf i).toNat)
  case atStart => exact ⟨0, Nat.zero_le _, rfl, Below.refl _ _⟩
  case round =>
    obtain ⟨k, hk, rfl, hbel⟩ := hrel
    by_cases hlt : k < m
    · have hltc : k < c.length := by have := HM.out; omega
      obtain ⟨b, off, rfl, hpb, c1⟩ := (HC.out.kept hbel).int hltc
      obtain ⟨g1, g2⟩ := HG.out.lit c[k] (List.getElem_mem hltc)
      have HNo := Lib.hid (show (c.take k).any (fun y => y.natAbs == c[k].natAbs) = false by
        refine List.any_eq_false.2 fun y hy => ?_
        obtain ⟨j, hj, rfl⟩ := List.getElem_of_mem hy
        have hjk : j < k := by simp at hj; omega
        have := List.pairwise_iff_getElem.1 HG.out.apart j k (by omega) hltc hjk
        simpa using this)
      have HY := Lib.hid (show ∀ (i : Nat) y, (c.take k)[i]? = some y → y.natAbs ≤ 1000 from fun i y h => by
        have := (HG.out.lit y (List.mem_of_mem_take (List.mem_of_getElem? h))).2
        omega)
      have HR := Lib.hid (show intE.Row p wr (some ⟨b, off, none⟩) (c.take k) from fun i y hy => (HC.out.kept hbel) i y (by
        have hik : i < k := by have := (List.getElem?_eq_some_iff.1 hy).1; simp at this; omega
        rw [List.getElem?_take, if_pos hik] at hy; exact hy))
      have HTL := Lib.hid (show (c.take k).length = k by simp; omega)
      obtain ⟨x, hx⟩ : ∃ x, x = c[k] := ⟨_, rfl⟩
      rw [← hx] at c1 g1 g2 HNo
      have HX := Lib.hid (show x.natAbs ≤ 1000 by omega)
      have hx0 : (x == 0) = false := by simpa using g1
      have hx1 : -(n : Int) ≤ x := by omega
      have hx2 : x ≤ (n : Int) := by omega
      have S := (St.start wr)
      obtain ⟨b7, hb7⟩ : ∃ b, b = wr.heap.size := ⟨_, rfl⟩
      have S1 := S.box hb7.symm #[.int .i64 x] 3
      have HB := Lib.hid hbel
      clear hx g1 g2 hltc hbel S
      go_upto_region 4 with fail
      rw [← hb7]
      refine S1.genC (z := b7 + 1) (by simp [hb7]) ?_
      intro w1 z1 S
      clear S1
      obtain ⟨y0, _⟩ := S.one 0
      clear hb7
      go_wp2_with fail
      have HCC := contI46 40 #[.pointer (some ⟨b7, 0, none⟩)] (fun _ _ => rfl) p (some ⟨b, off, none⟩) (c.take k) cp (fun y => y.natAbs == x.natAbs) w1 (by rw [HTL.out]; unfold maxLen; omega) (HR.out.kept S.bel) (fun i y w2 hy hb2 => (bad47 y x b7 w2 HX.out (HY.out i y hy) (Below.cellOf hb2 (S.one 0).1)))
      rw [HNo.out, HTL.out] at HCC
      refine HCC.mono ?_
      clear HCC
      rintro e w2 ⟨rfl, hb2⟩
      have HB2 := Lib.hid (Below.step HB.out (Below.step S.bel hb2))
      clear hb2 S
      go_wp2_with fail
      go_roundw
      case rel => exact ⟨k + 1, by omega, by go_num, HB2.out⟩
      case measure => simp [intOf] <;> omega
    · obtain rfl : k = m := by omega
      go_wp2
      exact bodyPost_ret (v := .tuple #[.int .i64 0, .int .i64 0]) (by simp [results, Try.results21, go_sem]) rfl ⟨rfl, hbel⟩
end Go.Proofs.Ytlpoedjipncbhaa
