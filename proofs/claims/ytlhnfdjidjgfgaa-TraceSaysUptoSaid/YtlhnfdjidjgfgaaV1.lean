/-
  Rows of rows of integers; slices.IndexFunc and ContainsFunc over integers, claims and facts; table.Power.
-/
import Derived.Test.YtlhnfdjidjgfgaaProg
import Derived.Test.YtlhnfdjidjgfgaaE6
import Derived.Test.YtlhnfdjidjgfgaaE4
import Derived.Test.YtlhnfdjidjgfgaaXb
import Derived.RegionTactic
import Derived.IntWalk
import Derived.Lib.QuietBelow
namespace Go.Proofs.Ytlhnfdjidjgfgaa
open Go.RowKit Go.Shelf
set_option linter.unusedVariables false
set_option maxHeartbeats 400000

/-- a row of integers as an element -/
def intsE : Elt (List Int) where
  ty := 22
  n := 1
  is p w cs a := ∃ k sp, cs = [.slice k a.length (a.length + sp)] ∧ intE.Row p w k a ∧ a.length ≤ maxLen
  pos := by omega
  len := fun ⟨k, sp, e, _⟩ => by rw [e]; rfl
  one := fun ⟨k, sp, e, _⟩ u hu => by rw [e] at hu; simp at hu; subst hu; rfl
  keep := fun hk ⟨k, sp, e, h, h2⟩ => ⟨k, sp, e, h.keep hk, h2⟩
theorem Elt.Row.ints {p : Nat → Prop} {w : World} {ao : Option Addr} {cs : List (List Int)} (h : intsE.Row p w ao cs) {i : Nat} (hi : i < cs.length) : ∃ b off k sp, ao = some ⟨b, off, none⟩ ∧ p b ∧
    w.cell? ⟨b, off + i, none⟩ = some (.slice k cs[i].length (cs[i].length + sp)) ∧ intE.Row p w k cs[i] ∧ cs[i].length ≤ maxLen := by
  obtain ⟨b, off, c, e, hp, hc, k, sp, rfl, h1, h2⟩ := h i cs[i] (List.getElem?_eq_getElem hi)
  exact ⟨b, off, k, sp, e, hp, by have := hc 0 _ rfl; simpa [intsE] using this, h1, h2⟩
/-- of a list: the first that is so -/
def idxP {α : Type} (P : α → Bool) (l : List α) : Int := firstZ (fun i => (l[i]?).elim false P) l.length
theorem idxP_hit {α : Type} {P : α → Bool} {l : List α} {k : Nat} (hk : k < l.length) (hno : ∀ (j : Nat) x, j < k → l[j]? = some x → P x = false) (hp : P l[k] = true) : idxP P l = k :=
  firstZ_hit hk (fun j hj => by rw [List.getElem?_eq_getElem (by omega)]; exact hno j _ hj (List.getElem?_eq_getElem (by omega))) (by rw [List.getElem?_eq_getElem hk]; exact hp)
theorem idxP_none {α : Type} {P : α → Bool} {l : List α} (hno : ∀ (j : Nat) x, j < l.length → l[j]? = some x → P x = false) : idxP P l = -1 :=
  firstZ_none (fun j hj => by rw [List.getElem?_eq_getElem hj]; exact hno j _ hj (List.getElem?_eq_getElem hj))
theorem idxP_any {α : Type} {P : α → Bool} {l : List α} : (0 ≤ idxP P l) ↔ l.any P = true := by
  unfold idxP
  rw [firstZ_nonneg, anyB_iff, List.any_eq_true]
  constructor
  · rintro ⟨j, hj, h⟩
    rw [List.getElem?_eq_getElem hj] at h
    exact ⟨l[j], List.getElem_mem hj, h⟩
  · rintro ⟨x, hx, h⟩
    obtain ⟨j, hj, rfl⟩ := List.getElem_of_mem hx
    exact ⟨j, hj, by rw [List.getElem?_eq_getElem hj]; exact h⟩

set_option maxRecDepth 100000 in
theorem idxI (fn : Nat) (cap : Array Value) (eg : ∀ args w, (callFunc fn args).run Try.prog w = .ok (.enter fn args) w)
    (p : Nat → Prop) (ao : Option Addr) (xs : List Int) (cp : Nat) (P : Int → Bool) (w : World) (hn : xs.length ≤ maxLen) (hc : intE.Row p w ao xs)
    (hf : ∀ (i : Nat) x w1, xs[i]? = some x → Below w.heap.size w w1 → Calls Try.prog fn (#[.int .i64 x] ++ cap) w1 fun e w2 => e = .returned (.bool (P x)) ∧ Below w1.heap.size w1 w2) :
    Calls Try.prog 106 #[.slice ao xs.length cp, .func (.func fn) #[] cap] w fun e w' => e = .returned (.int .i64 (idxP P xs)) ∧ Below w.heap.size w w' := by
  have HF := Lib.hid hf
  have HC := Lib.hid hc
  have hn' : xs.length ≤ 9223372036854775807 := by unfold maxLen at hn; omega
  clear hf hc hn
  go_enter Try.func106, Try.ntmps106
  go_wp2
  go_loopw [5, 8] (fun _ i wr => ∃ k : Nat, k ≤ xs.length ∧ i = .int .i64 k ∧ (∀ (j : Nat) x, j < k → xs[j]? = some x → P x = false) ∧ Below w.heap.size w wr) (fun _ i _ => xs.length - (intOf i).toNat)
  case atStart => exact ⟨0, Nat.zero_le _, rfl, fun j x hj _ => by omega, Below.refl _ _⟩
  case round =>
    obtain ⟨k, hk, rfl, hno, hbel⟩ := hrel
    have HN := Lib.hid hno
    clear hno
    by_cases hlt : k < xs.length
    · obtain ⟨b, off, rfl, hpb, c1⟩ := (HC.out.kept hbel).int hlt
      have HX := Lib.hid (List.getElem?_eq_getElem hlt)
      go_wp2_with fail
      refine (HF.out k _ _ HX.out hbel).mono ?_
      rintro e w1 ⟨rfl, hb1⟩
      have hbel1 := Below.step hbel hb1
      cases hp : P xs[k] with
      | true =>
        have HP := Lib.hid hp; clear hp
        go_wp2
        go_ret
        exact ⟨ret_int (idxP_hit hlt HN.out HP.out).symm, hbel1⟩
      | false =>
        have HP := Lib.hid (no_step hlt HN.out hp); clear hp
        go_wp2
        go_roundw
        case rel => exact ⟨k + 1, by omega, by go_num, HP.out, hbel1⟩
        case measure => simp [intOf] <;> omega
    · obtain rfl : k = xs.length := by omega
      go_wp2
      go_ret
      exact ⟨ret_int (idxP_none HN.out).symm, hbel⟩

set_option maxRecDepth 100000 in
theorem contI (fn : Nat) (cap : Array Value) (eg : ∀ args w, (callFunc fn args).run Try.prog w = .ok (.enter fn args) w)
    (p : Nat → Prop) (ao : Option Addr) (xs : List Int) (cp : Nat) (P : Int → Bool) (w : World) (hn : xs.length ≤ maxLen) (hc : intE.Row p w ao xs)
    (hf : ∀ (i : Nat) x w1, xs[i]? = some x → Below w.heap.size w w1 → Calls Try.prog fn (#[.int .i64 x] ++ cap) w1 fun e w2 => e = .returned (.bool (P x)) ∧ Below w1.heap.size w1 w2) :
    Calls Try.prog 115 #[.slice ao xs.length cp, .func (.func fn) #[] cap] w fun e w' => e = .returned (.bool (xs.any P)) ∧ Below w.heap.size w w' := by
  have H := Lib.hid (idxI fn cap eg p ao xs cp P w hn hc hf)
  clear hf hc eg hn
  go_enter Try.func115, Try.ntmps115
  go_wp2_with fail
  refine H.out.mono ?_
  rintro e w1 ⟨rfl, hb1⟩
  go_wp2
  go_ret
  refine ⟨ret_bool ?_, hb1⟩
  rw [Bool.eq_iff_iff, ← idxP_any]; simp

set_option maxRecDepth 100000 in
theorem idxC (fn : Nat) (cap : Array Value) (eg : ∀ args w, (callFunc fn args).run Try.prog w = .ok (.enter fn args) w)
    (p : Nat → Prop) (ao : Option Addr) (xs : List (List Fc)) (cp : Nat) (P : (List Fc) → Bool) (w : World) (hn : xs.length ≤ maxLen) (hc : claimE.Row p w ao xs)
    (hf : ∀ (i : Nat) x k sp w1, xs[i]? = some x → Below w.heap.size w w1 → factE.Row p w1 k x → x.length ≤ maxLen → Calls Try.prog fn (#[.agg #[.slice k x.length (x.length + sp)]] ++ cap) w1 fun e w2 => e = .returned (.bool (P x)) ∧ Below w1.heap.size w1 w2) :
    Calls Try.prog 117 #[.slice ao xs.length cp, .func (.func fn) #[] cap] w fun e w' => e = .returned (.int .i64 (idxP P xs)) ∧ Below w.heap.size w w' := by
  have HF := Lib.hid hf
  have HC := Lib.hid hc
  have hn' : xs.length ≤ 9223372036854775807 := by unfold maxLen at hn; omega
  clear hf hc hn
  go_enter Try.func117, Try.ntmps117
  go_wp2
  go_loopw [5, 8] (fun _ i wr => ∃ k : Nat, k ≤ xs.length ∧ i = .int .i64 k ∧ (∀ (j : Nat) x, j < k → xs[j]? = some x → P x = false) ∧ Below w.heap.size w wr) (fun _ i _ => xs.length - (intOf i).toNat)
  case atStart => exact ⟨0, Nat.zero_le _, rfl, fun j x hj _ => by omega, Below.refl _ _⟩
  case round =>
    obtain ⟨k, hk, rfl, hno, hbel⟩ := hrel
    have HN := Lib.hid hno
    clear hno
    by_cases hlt : k < xs.length
    · obtain ⟨b, off, ko, sp, rfl, hpb, c1, h1, h2⟩ := (HC.out.kept hbel).claim hlt
      have HX := Lib.hid (List.getElem?_eq_getElem hlt)
      have H1 := Lib.hid h1; have H2 := Lib.hid h2
      clear h1 h2
      go_wp2_with fail
      refine (HF.out k _ _ _ _ HX.out hbel H1.out H2.out).mono ?_
      rintro e w1 ⟨rfl, hb1⟩
      have hbel1 := Below.step hbel hb1
      cases hp : P xs[k] with
      | true =>
        have HP := Lib.hid hp; clear hp
        go_wp2
        go_ret
        exact ⟨ret_int (idxP_hit hlt HN.out HP.out).symm, hbel1⟩
      | false =>
        have HP := Lib.hid (no_step hlt HN.out hp); clear hp
        go_wp2
        go_roundw
        case rel => exact ⟨k + 1, by omega, by go_num, HP.out, hbel1⟩
        case measure => simp [intOf] <;> omega
    · obtain rfl : k = xs.length := by omega
      go_wp2
      go_ret
      exact ⟨ret_int (idxP_none HN.out).symm, hbel⟩

set_option maxRecDepth 100000 in
theorem idxF (fn : Nat) (cap : Array Value) (eg : ∀ args w, (callFunc fn args).run Try.prog w = .ok (.enter fn args) w)
    (p : Nat → Prop) (ao : Option Addr) (xs : List Fc) (cp : Nat) (P : Fc → Bool) (w : World) (hn : xs.length ≤ maxLen) (hc : factE.Row p w ao xs)
    (hf : ∀ (i : Nat) (x : Fc) k sp k2 sp2 w1, xs[i]? = some x → Below w.heap.size w w1 → TreeP p w1 (.agg #[.int .i64 x.l.head, .slice k x.l.kids.length (x.l.kids.length + sp)]) x.l → TreeP p w1 (.agg #[.int .i64 x.r.head, .slice k2 x.r.kids.length (x.r.kids.length + sp2)]) x.r → Calls Try.prog fn (#[(.agg #[.bool x.neg, .int .i64 x.l.head, .slice k x.l.kids.length (x.l.kids.length + sp), .int .i64 x.r.head, .slice k2 x.r.kids.length (x.r.kids.length + sp2)])] ++ cap) w1 fun e w2 => e = .returned (.bool (P x)) ∧ Below w1.heap.size w1 w2) :
    Calls Try.prog 144 #[.slice ao xs.length cp, .func (.func fn) #[] cap] w fun e w' => e = .returned (.int .i64 (idxP P xs)) ∧ Below w.heap.size w w' := by
  have HF := Lib.hid hf
  have HC := Lib.hid hc
  have hn' : xs.length ≤ 9223372036854775807 := by unfold maxLen at hn; omega
  clear hf hc hn
  go_enter Try.func144, Try.ntmps144
  go_wp2
  go_loopw [5, 8] (fun _ i wr => ∃ k : Nat, k ≤ xs.length ∧ i = .int .i64 k ∧ (∀ (j : Nat) x, j < k → xs[j]? = some x → P x = false) ∧ Below w.heap.size w wr) (fun _ i _ => xs.length - (intOf i).toNat)
  case atStart => exact ⟨0, Nat.zero_le _, rfl, fun j x hj _ => by omega, Below.refl _ _⟩
  case round =>
    obtain ⟨k, hk, rfl, hno, hbel⟩ := hrel
    have HN := Lib.hid hno
    clear hno
    by_cases hlt : k < xs.length
    · obtain ⟨b, off, ko, sp, k2, sp2, rfl, hpb, c0, c1, c2, c3, c4, h1, h2⟩ := (HC.out.kept hbel).fact hlt
      have HX := Lib.hid (List.getElem?_eq_getElem hlt)
      have H1 := Lib.hid h1; have H2 := Lib.hid h2
      clear h1 h2
      go_wp2_with fail
      refine (HF.out k _ _ _ _ _ _ HX.out hbel H1.out H2.out).mono ?_
      rintro e w1 ⟨rfl, hb1⟩
      have hbel1 := Below.step hbel hb1
      cases hp : P xs[k] with
      | true =>
        have HP := Lib.hid hp; clear hp
        go_wp2
        go_ret
        exact ⟨ret_int (idxP_hit hlt HN.out HP.out).symm, hbel1⟩
      | false =>
        have HP := Lib.hid (no_step hlt HN.out hp); clear hp
        go_wp2
        go_roundw
        case rel => exact ⟨k + 1, by omega, by go_num, HP.out, hbel1⟩
        case measure => simp [intOf] <;> omega
    · obtain rfl : k = xs.length := by omega
      go_wp2
      go_ret
      exact ⟨ret_int (idxP_none HN.out).symm, hbel⟩

set_option maxRecDepth 100000 in
theorem contF (fn : Nat) (cap : Array Value) (eg : ∀ args w, (callFunc fn args).run Try.prog w = .ok (.enter fn args) w)
    (p : Nat → Prop) (ao : Option Addr) (xs : List Fc) (cp : Nat) (P : Fc → Bool) (w : World) (hn : xs.length ≤ maxLen) (hc : factE.Row p w ao xs)
    (hf : ∀ (i : Nat) (x : Fc) k sp k2 sp2 w1, xs[i]? = some x → Below w.heap.size w w1 → TreeP p w1 (.agg #[.int .i64 x.l.head, .slice k x.l.kids.length (x.l.kids.length + sp)]) x.l → TreeP p w1 (.agg #[.int .i64 x.r.head, .slice k2 x.r.kids.length (x.r.kids.length + sp2)]) x.r → Calls Try.prog fn (#[(.agg #[.bool x.neg, .int .i64 x.l.head, .slice k x.l.kids.length (x.l.kids.length + sp), .int .i64 x.r.head, .slice k2 x.r.kids.length (x.r.kids.length + sp2)])] ++ cap) w1 fun e w2 => e = .returned (.bool (P x)) ∧ Below w1.heap.size w1 w2) :
    Calls Try.prog 120 #[.slice ao xs.length cp, .func (.func fn) #[] cap] w fun e w' => e = .returned (.bool (xs.any P)) ∧ Below w.heap.size w w' := by
  have H := Lib.hid (idxF fn cap eg p ao xs cp P w hn hc hf)
  clear hf hc eg hn
  go_enter Try.func120, Try.ntmps120
  go_wp2_with fail
  refine H.out.mono ?_
  rintro e w1 ⟨rfl, hb1⟩
  go_wp2
  go_ret
  refine ⟨ret_bool ?_, hb1⟩
  rw [Bool.eq_iff_iff, ← idxP_any]; simp

/-- a power, up to a limit, as the program reckons it -/
def powN (b : Nat) (most : Nat) : Nat → Nat → Nat
  | 0, out => out
  | n + 1, out => if most < out * b then out * b else powN b most n (out * b)
theorem powN_le {b most : Nat} (hb : b ≤ 4) (hm : 1 ≤ most) : ∀ (n out : Nat), out ≤ most → powN b most n out ≤ 4 * most
  | 0, out, h => by rw [powN]; omega
  | n + 1, out, h => by
    rw [powN]
    have h4 : out * b ≤ most * 4 := Nat.mul_le_mul h hb
    by_cases hx : most < out * b
    · rw [if_pos hx]; omega
    · rw [if_neg hx]; exact powN_le hb hm n _ (by omega)
theorem powN_eq {b most : Nat} (hb : 1 ≤ b) : ∀ (n out : Nat), powN b most n out ≤ most → powN b most n out = out * b ^ n
  | 0, out, h => by simp [powN]
  | n + 1, out, h => by
    rw [powN] at h ⊢
    by_cases hx : most < out * b
    · rw [if_pos hx] at h; omega
    · rw [if_neg hx] at h ⊢
      rw [powN_eq hb n _ h, Nat.pow_succ, Nat.mul_assoc, Nat.mul_comm b]
theorem powN_of {b most : Nat} (hb : 1 ≤ b) : ∀ (n out : Nat), out * b ^ n ≤ most → powN b most n out = out * b ^ n
  | 0, out, h => by simp [powN]
  | n + 1, out, h => by
    have e : out * b * b ^ n = out * b ^ (n + 1) := by rw [Nat.pow_succ, Nat.mul_assoc, Nat.mul_comm b]
    have hp : 1 ≤ b ^ n := Nat.one_le_pow _ _ hb
    have h1 : out * b ≤ out * b * b ^ n := Nat.le_mul_of_pos_right _ hp
    rw [powN, if_neg (by rw [← e] at h; omega), powN_of hb n _ (by rw [e]; exact h), e]

set_option maxRecDepth 100000 in
theorem power80 (b n most : Nat) (w : World) (hb : b ≤ 4) (hn : n ≤ 1000000) (hm : most ≤ 1000000) :
    Calls Try.prog 114 #[.int .i64 b, .int .i64 n, .int .i64 most] w fun e w' => e = .returned (.int .i64 (powN b most n 1 : Nat)) ∧ w' = w := by
  go_enter Try.func114, Try.ntmps114
  go_wp2_with fail
  go_loopw [7, 9] (fun o i wr => ∃ (k x : Nat), k ≤ n ∧ i = .int .i64 k ∧ o = .int .i64 x ∧ x ≤ most + 1 ∧ powN b most n 1 = powN b most (n - k) x ∧ wr = w) (fun _ i _ => n - (intOf i).toNat)
  case atStart => exact ⟨0, 1, by omega, rfl, rfl, by omega, rfl, rfl⟩
  case round =>
    obtain ⟨k, x, hk, rfl, rfl, hx, he, rfl⟩ := hrel
    have HE := Lib.hid he
    clear he
    by_cases hlt : k < n
    · have hlti : (k : Int) < (n : Int) := by omega
      have hxb : x * b ≤ (most + 1) * 4 := Nat.mul_le_mul hx hb
      have hw : IntKind.i64.wrap ((x : Int) * (b : Int)) = ((x * b : Nat) : Int) := by rw [← Int.natCast_mul]; exact IntWalk.i64_in _ (by omega)
      obtain ⟨y, hy⟩ : ∃ y, y = x * b := ⟨_, rfl⟩
      rw [← hy] at hw hxb
      have HS := Lib.hid (show powN b most n 1 = if most < y then y else powN b most (n - (k + 1)) y by rw [HE.out, show n - k = (n - (k + 1)) + 1 by omega, powN, ← hy])
      clear hy
      by_cases hm2 : most < y
      · have hm3 : (most : Int) < (y : Int) := by omega
        have HR := Lib.hid (show powN b most n 1 = y by rw [HS.out, if_pos hm2])
        clear hm2
        go_wp2_with fail
        go_ret
        exact ⟨ret_int (by rw [HR.out]), by first | rfl | trivial⟩
      · have hm3 : ¬ (most : Int) < (y : Int) := by omega
        have HR := Lib.hid (show powN b most n 1 = powN b most (n - (k + 1)) y by rw [HS.out, if_neg hm2])
        go_wp2_with fail
        go_roundw
        case rel => exact ⟨k + 1, y, by omega, by go_num, rfl, by omega, HR.out, trivial⟩
        case measure => simp [intOf] <;> omega
    · obtain rfl : k = n := by omega
      have HR := Lib.hid (show powN b most k 1 = x by rw [HE.out, Nat.sub_self, powN])
      go_wp2_with fail
      go_ret
      exact ⟨ret_int (by rw [HR.out]), by first | rfl | trivial⟩
end Go.Proofs.Ytlhnfdjidjgfgaa
