/-
  Rows of rows of integers; slices.IndexFunc and ContainsFunc over integers, claims and facts; table.Power.
  Walks: a tree whose variables are numbered by a list.
  Plain: numbers of variables by first showing; a tree renumbered with its own order is the document's renumbered one.
  A map of the call's own from variables to numbers, as a fact of a walk's state.
  Walks: Renamer.Term.
-/
import Derived.Test.YtlhnfdjidjgfgaaProg
import Derived.Test.YtlhnfdjidjgfgaaT25
import Derived.Test.YtlhnfdjidjgfgaaPa4
import Derived.Test.YtlhnfdjidjgfgaaXb
import Derived.RegionTactic
import Derived.IntWalk
import Derived.Lib.QuietBelow
import Derived.Deep.RegionLaw
import Derived.Test.YtlhnfdjidjgfgaaXc
import Derived.Test.YtlhnfdjidjgfgaaSt3
import Derived.Maps.OwnSet
import Derived.Maps.Views
import Derived.Maps.OwnOps
import Derived.Maps.Keyed
namespace Go.Proofs.Ytlhnfdjidjgfgaa
open Go.RowKit Go.Shelf
set_option linter.unusedVariables false
set_option maxHeartbeats 400000

/-- a row of integers as an element -/
def intsE : Elt (List Int) where
  ty := 22
  n := 1
  is p w cs a := ∃ k sp, cs = [.slice k a.length (a.length + sp)] ∧ intE.Row p w k a ∧ a.length ≤ maxLen
  pos := by omega
  len := fun ⟨k, sp, e, _⟩ => by rw [e]; rfl
  one := fun ⟨k, sp, e, _⟩ u hu => by rw [e] at hu; simp at hu; subst hu; rfl
  keep := fun hk ⟨k, sp, e, h, h2⟩ => ⟨k, sp, e, h.keep hk, h2⟩
theorem Elt.Row.ints {p : Nat → Prop} {w : World} {ao : Option Addr} {cs : List (List Int)} (h : intsE.Row p w ao cs) {i : Nat} (hi : i < cs.length) : ∃ b off k sp, ao = some ⟨b, off, none⟩ ∧ p b ∧
    w.cell? ⟨b, off + i, none⟩ = some (.slice k cs[i].length (cs[i].length + sp)) ∧ intE.Row p w k cs[i] ∧ cs[i].length ≤ maxLen := by
  obtain ⟨b, off, c, e, hp, hc, k, sp, rfl, h1, h2⟩ := h i cs[i] (List.getElem?_eq_getElem hi)
  exact ⟨b, off, k, sp, e, hp, by have := hc 0 _ rfl; simpa [intsE] using this, h1, h2⟩
/-- of a list: the first that is so -/
def idxP {α : Type} (P : α → Bool) (l : List α) : Int := firstZ (fun i => (l[i]?).elim false P) l.length
theorem idxP_hit {α : Type} {P : α → Bool} {l : List α} {k : Nat} (hk : k < l.length) (hno : ∀ (j : Nat) x, j < k → l[j]? = some x → P x = false) (hp : P l[k] = true) : idxP P l = k :=
  firstZ_hit hk (fun j hj => by rw [List.getElem?_eq_getElem (by omega)]; exact hno j _ hj (List.getElem?_eq_getElem (by omega))) (by rw [List.getElem?_eq_getElem hk]; exact hp)
theorem idxP_none {α : Type} {P : α → Bool} {l : List α} (hno : ∀ (j : Nat) x, j < l.length → l[j]? = some x → P x = false) : idxP P l = -1 :=
  firstZ_none (fun j hj => by rw [List.getElem?_eq_getElem hj]; exact hno j _ hj (List.getElem?_eq_getElem hj))
theorem idxP_any {α : Type} {P : α → Bool} {l : List α} : (0 ≤ idxP P l) ↔ l.any P = true := by
  unfold idxP
  rw [firstZ_nonneg, anyB_iff, List.any_eq_true]
  constructor
  · rintro ⟨j, hj, h⟩
    rw [List.getElem?_eq_getElem hj] at h
    exact ⟨l[j], List.getElem_mem hj, h⟩
  · rintro ⟨x, hx, h⟩
    obtain ⟨j, hj, rfl⟩ := List.getElem_of_mem hx
    exact ⟨j, hj, by rw [List.getElem?_eq_getElem hj]; exact h⟩

set_option maxRecDepth 100000 in
theorem idxI (fn : Nat) (cap : Array Value) (eg : ∀ args w, (callFunc fn args).run Try.prog w = .ok (.enter fn args) w)
    (p : Nat → Prop) (ao : Option Addr) (xs : List Int) (cp : Nat) (P : Int → Bool) (w : World) (hn : xs.length ≤ maxLen) (hc : intE.Row p w ao xs)
    (hf : ∀ (i : Nat) x w1, xs[i]? = some x → Below w.heap.size w w1 → Calls Try.prog fn (#[.int .i64 x] ++ cap) w1 fun e w2 => e = .returned (.bool (P x)) ∧ Below w1.heap.size w1 w2) :
    Calls Try.prog 106 #[.slice ao xs.length cp, .func (.func fn) #[] cap] w fun e w' => e = .returned (.int .i64 (idxP P xs)) ∧ Below w.heap.size w w' := by
  have HF := Lib.hid hf
  have HC := Lib.hid hc
  have hn' : xs.length ≤ 9223372036854775807 := by unfold maxLen at hn; omega
  clear hf hc hn
  go_enter Try.func106, Try.ntmps106
  go_wp2
  go_loopw [5, 8] (fun _ i wr => ∃ k : Nat, k ≤ xs.length ∧ i = .int .i64 k ∧ (∀ (j : Nat) x, j < k → xs[j]? = some x → P x = false) ∧ Below w.heap.size w wr) (fun _ i _ => xs.length - (intOf i).toNat)
  case atStart => exact ⟨0, Nat.zero_le _, rfl, fun j x hj _ => by omega, Below.refl _ _⟩
  case round =>
    obtain ⟨k, hk, rfl, hno, hbel⟩ := hrel
    have HN := Lib.hid hno
    clear hno
    by_cases hlt : k < xs.length
    · obtain ⟨b, off, rfl, hpb, c1⟩ := (HC.out.kept hbel).int hlt
      have HX := Lib.hid (List.getElem?_eq_getElem hlt)
      go_wp2_with fail
      refine (HF.out k _ _ HX.out hbel).mono ?_
      rintro e w1 ⟨rfl, hb1⟩
      have hbel1 := Below.step hbel hb1
      cases hp : P xs[k] with
      | true =>
        have HP := Lib.hid hp; clear hp
        go_wp2
        go_ret
        exact ⟨ret_int (idxP_hit hlt HN.out HP.out).symm, hbel1⟩
      | false =>
        have HP := Lib.hid (no_step hlt HN.out hp); clear hp
        go_wp2
        go_roundw
        case rel => exact ⟨k + 1, by omega, by go_num, HP.out, hbel1⟩
        case measure => simp [intOf] <;> omega
    · obtain rfl : k = xs.length := by omega
      go_wp2
      go_ret
      exact ⟨ret_int (idxP_none HN.out).symm, hbel⟩

set_option maxRecDepth 100000 in
theorem contI (fn : Nat) (cap : Array Value) (eg : ∀ args w, (callFunc fn args).run Try.prog w = .ok (.enter fn args) w)
    (p : Nat → Prop) (ao : Option Addr) (xs : List Int) (cp : Nat) (P : Int → Bool) (w : World) (hn : xs.length ≤ maxLen) (hc : intE.Row p w ao xs)
    (hf : ∀ (i : Nat) x w1, xs[i]? = some x → Below w.heap.size w w1 → Calls Try.prog fn (#[.int .i64 x] ++ cap) w1 fun e w2 => e = .returned (.bool (P x)) ∧ Below w1.heap.size w1 w2) :
    Calls Try.prog 115 #[.slice ao xs.length cp, .func (.func fn) #[] cap] w fun e w' => e = .returned (.bool (xs.any P)) ∧ Below w.heap.size w w' := by
  have H := Lib.hid (idxI fn cap eg p ao xs cp P w hn hc hf)
  clear hf hc eg hn
  go_enter Try.func115, Try.ntmps115
  go_wp2_with fail
  refine H.out.mono ?_
  rintro e w1 ⟨rfl, hb1⟩
  go_wp2
  go_ret
  refine ⟨ret_bool ?_, hb1⟩
  rw [Bool.eq_iff_iff, ← idxP_any]; simp

set_option maxRecDepth 100000 in
theorem idxC (fn : Nat) (cap : Array Value) (eg : ∀ args w, (callFunc fn args).run Try.prog w = .ok (.enter fn args) w)
    (p : Nat → Prop) (ao : Option Addr) (xs : List (List Fc)) (cp : Nat) (P : (List Fc) → Bool) (w : World) (hn : xs.length ≤ maxLen) (hc : claimE.Row p w ao xs)
    (hf : ∀ (i : Nat) x k sp w1, xs[i]? = some x → Below w.heap.size w w1 → factE.Row p w1 k x → x.length ≤ maxLen → Calls Try.prog fn (#[.agg #[.slice k x.length (x.length + sp)]] ++ cap) w1 fun e w2 => e = .returned (.bool (P x)) ∧ Below w1.heap.size w1 w2) :
    Calls Try.prog 117 #[.slice ao xs.length cp, .func (.func fn) #[] cap] w fun e w' => e = .returned (.int .i64 (idxP P xs)) ∧ Below w.heap.size w w' := by
  have HF := Lib.hid hf
  have HC := Lib.hid hc
  have hn' : xs.length ≤ 9223372036854775807 := by unfold maxLen at hn; omega
  clear hf hc hn
  go_enter Try.func117, Try.ntmps117
  go_wp2
  go_loopw [5, 8] (fun _ i wr => ∃ k : Nat, k ≤ xs.length ∧ i = .int .i64 k ∧ (∀ (j : Nat) x, j < k → xs[j]? = some x → P x = false) ∧ Below w.heap.size w wr) (fun _ i _ => xs.length - (intOf i).toNat)
  case atStart => exact ⟨0, Nat.zero_le _, rfl, fun j x hj _ => by omega, Below.refl _ _⟩
  case round =>
    obtain ⟨k, hk, rfl, hno, hbel⟩ := hrel
    have HN := Lib.hid hno
    clear hno
    by_cases hlt : k < xs.length
    · obtain ⟨b, off, ko, sp, rfl, hpb, c1, h1, h2⟩ := (HC.out.kept hbel).claim hlt
      have HX := Lib.hid (List.getElem?_eq_getElem hlt)
      have H1 := Lib.hid h1; have H2 := Lib.hid h2
      clear h1 h2
      go_wp2_with fail
      refine (HF.out k _ _ _ _ HX.out hbel H1.out H2.out).mono ?_
      rintro e w1 ⟨rfl, hb1⟩
      have hbel1 := Below.step hbel hb1
      cases hp : P xs[k] with
      | true =>
        have HP := Lib.hid hp; clear hp
        go_wp2
        go_ret
        exact ⟨ret_int (idxP_hit hlt HN.out HP.out).symm, hbel1⟩
      | false =>
        have HP := Lib.hid (no_step hlt HN.out hp); clear hp
        go_wp2
        go_roundw
        case rel => exact ⟨k + 1, by omega, by go_num, HP.out, hbel1⟩
        case measure => simp [intOf] <;> omega
    · obtain rfl : k = xs.length := by omega
      go_wp2
      go_ret
      exact ⟨ret_int (idxP_none HN.out).symm, hbel⟩

set_option maxRecDepth 100000 in
theorem idxF (fn : Nat) (cap : Array Value) (eg : ∀ args w, (callFunc fn args).run Try.prog w = .ok (.enter fn args) w)
    (p : Nat → Prop) (ao : Option Addr) (xs : List Fc) (cp : Nat) (P : Fc → Bool) (w : World) (hn : xs.length ≤ maxLen) (hc : factE.Row p w ao xs)
    (hf : ∀ (i : Nat) (x : Fc) k sp k2 sp2 w1, xs[i]? = some x → Below w.heap.size w w1 → TreeP p w1 (.agg #[.int .i64 x.l.head, .slice k x.l.kids.length (x.l.kids.length + sp)]) x.l → TreeP p w1 (.agg #[.int .i64 x.r.head, .slice k2 x.r.kids.length (x.r.kids.length + sp2)]) x.r → Calls Try.prog fn (#[(.agg #[.bool x.neg, .int .i64 x.l.head, .slice k x.l.kids.length (x.l.kids.length + sp), .int .i64 x.r.head, .slice k2 x.r.kids.length (x.r.kids.length + sp2)])] ++ cap) w1 fun e w2 => e = .returned (.bool (P x)) ∧ Below w1.heap.size w1 w2) :
    Calls Try.prog 144 #[.slice ao xs.length cp, .func (.func fn) #[] cap] w fun e w' => e = .returned (.int .i64 (idxP P xs)) ∧ Below w.heap.size w w' := by
  have HF := Lib.hid hf
  have HC := Lib.hid hc
  have hn' : xs.length ≤ 9223372036854775807 := by unfold maxLen at hn; omega
  clear hf hc hn
  go_enter Try.func144, Try.ntmps144
  go_wp2
  go_loopw [5, 8] (fun _ i wr => ∃ k : Nat, k ≤ xs.length ∧ i = .int .i64 k ∧ (∀ (j : Nat) x, j < k → xs[j]? = some x → P x = false) ∧ Below w.heap.size w wr) (fun _ i _ => xs.length - (intOf i).toNat)
  case atStart => exact ⟨0, Nat.zero_le _, rfl, fun j x hj _ => by omega, Below.refl _ _⟩
  case round =>
    obtain ⟨k, hk, rfl, hno, hbel⟩ := hrel
    have HN := Lib.hid hno
    clear hno
    by_cases hlt : k < xs.length
    · obtain ⟨b, off, ko, sp, k2, sp2, rfl, hpb, c0, c1, c2, c3, c4, h1, h2⟩ := (HC.out.kept hbel).fact hlt
      have HX := Lib.hid (List.getElem?_eq_getElem hlt)
      have H1 := Lib.hid h1; have H2 := Lib.hid h2
      clear h1 h2
      go_wp2_with fail
      refine (HF.out k _ _ _ _ _ _ HX.out hbel H1.out H2.out).mono ?_
      rintro e w1 ⟨rfl, hb1⟩
      have hbel1 := Below.step hbel hb1
      cases hp : P xs[k] with
      | true =>
        have HP := Lib.hid hp; clear hp
        go_wp2
        go_ret
        exact ⟨ret_int (idxP_hit hlt HN.out HP.out).symm, hbel1⟩
      | false =>
        have HP := Lib.hid (no_step hlt HN.out hp); clear hp
        go_wp2
        go_roundw
        case rel => exact ⟨k + 1, by omega, by go_num, HP.out, hbel1⟩
        case measure => simp [intOf] <;> omega
    · obtain rfl : k = xs.length := by omega
      go_wp2
      go_ret
      exact ⟨ret_int (idxP_none HN.out).symm, hbel⟩

set_option maxRecDepth 100000 in
theorem contF (fn : Nat) (cap : Array Value) (eg : ∀ args w, (callFunc fn args).run Try.prog w = .ok (.enter fn args) w)
    (p : Nat → Prop) (ao : Option Addr) (xs : List Fc) (cp : Nat) (P : Fc → Bool) (w : World) (hn : xs.length ≤ maxLen) (hc : factE.Row p w ao xs)
    (hf : ∀ (i : Nat) (x : Fc) k sp k2 sp2 w1, xs[i]? = some x → Below w.heap.size w w1 → TreeP p w1 (.agg #[.int .i64 x.l.head, .slice k x.l.kids.length (x.l.kids.length + sp)]) x.l → TreeP p w1 (.agg #[.int .i64 x.r.head, .slice k2 x.r.kids.length (x.r.kids.length + sp2)]) x.r → Calls Try.prog fn (#[(.agg #[.bool x.neg, .int .i64 x.l.head, .slice k x.l.kids.length (x.l.kids.length + sp), .int .i64 x.r.head, .slice k2 x.r.kids.length (x.r.kids.length + sp2)])] ++ cap) w1 fun e w2 => e = .returned (.bool (P x)) ∧ Below w1.heap.size w1 w2) :
    Calls Try.prog 120 #[.slice ao xs.length cp, .func (.func fn) #[] cap] w fun e w' => e = .returned (.bool (xs.any P)) ∧ Below w.heap.size w w' := by
  have H := Lib.hid (idxF fn cap eg p ao xs cp P w hn hc hf)
  clear hf hc eg hn
  go_enter Try.func120, Try.ntmps120
  go_wp2_with fail
  refine H.out.mono ?_
  rintro e w1 ⟨rfl, hb1⟩
  go_wp2
  go_ret
  refine ⟨ret_bool ?_, hb1⟩
  rw [Bool.eq_iff_iff, ← idxP_any]; simp

/-- a power, up to a limit, as the program reckons it -/
def powN (b : Nat) (most : Nat) : Nat → Nat → Nat
  | 0, out => out
  | n + 1, out => if most < out * b then out * b else powN b most n (out * b)
theorem powN_le {b most : Nat} (hb : b ≤ 4) (hm : 1 ≤ most) : ∀ (n out : Nat), out ≤ most → powN b most n out ≤ 4 * most
  | 0, out, h => by rw [powN]; omega
  | n + 1, out, h => by
    rw [powN]
    have h4 : out * b ≤ most * 4 := Nat.mul_le_mul h hb
    by_cases hx : most < out * b
    · rw [if_pos hx]; omega
    · rw [if_neg hx]; exact powN_le hb hm n _ (by omega)
theorem powN_eq {b most : Nat} (hb : 1 ≤ b) : ∀ (n out : Nat), powN b most n out ≤ most → powN b most n out = out * b ^ n
  | 0, out, h => by simp [powN]
  | n + 1, out, h => by
    rw [powN] at h ⊢
    by_cases hx : most < out * b
    · rw [if_pos hx] at h; omega
    · rw [if_neg hx] at h ⊢
      rw [powN_eq hb n _ h, Nat.pow_succ, Nat.mul_assoc, Nat.mul_comm b]
theorem powN_of {b most : Nat} (hb : 1 ≤ b) : ∀ (n out : Nat), out * b ^ n ≤ most → powN b most n out = out * b ^ n
  | 0, out, h => by simp [powN]
  | n + 1, out, h => by
    have e : out * b * b ^ n = out * b ^ (n + 1) := by rw [Nat.pow_succ, Nat.mul_assoc, Nat.mul_comm b]
    have hp : 1 ≤ b ^ n := Nat.one_le_pow _ _ hb
    have h1 : out * b ≤ out * b * b ^ n := Nat.le_mul_of_pos_right _ hp
    rw [powN, if_neg (by rw [← e] at h; omega), powN_of hb n _ (by rw [e]; exact h), e]

set_option maxRecDepth 100000 in
theorem power80 (b n most : Nat) (w : World) (hb : b ≤ 4) (hn : n ≤ 1000000) (hm : most ≤ 1000000) :
    Calls Try.prog 114 #[.int .i64 b, .int .i64 n, .int .i64 most] w fun e w' => e = .returned (.int .i64 (powN b most n 1 : Nat)) ∧ w' = w := by
  go_enter Try.func114, Try.ntmps114
  go_wp2_with fail
  go_loopw [7, 9] (fun o i wr => ∃ (k x : Nat), k ≤ n ∧ i = .int .i64 k ∧ o = .int .i64 x ∧ x ≤ most + 1 ∧ powN b most n 1 = powN b most (n - k) x ∧ wr = w) (fun _ i _ => n - (intOf i).toNat)
  case atStart => exact ⟨0, 1, by omega, rfl, rfl, by omega, rfl, rfl⟩
  case round =>
    obtain ⟨k, x, hk, rfl, rfl, hx, he, rfl⟩ := hrel
    have HE := Lib.hid he
    clear he
    by_cases hlt : k < n
    · have hlti : (k : Int) < (n : Int) := by omega
      have hxb : x * b ≤ (most + 1) * 4 := Nat.mul_le_mul hx hb
      have hw : IntKind.i64.wrap ((x : Int) * (b : Int)) = ((x * b : Nat) : Int) := by rw [← Int.natCast_mul]; exact IntWalk.i64_in _ (by omega)
      obtain ⟨y, hy⟩ : ∃ y, y = x * b := ⟨_, rfl⟩
      rw [← hy] at hw hxb
      have HS := Lib.hid (show powN b most n 1 = if most < y then y else powN b most (n - (k + 1)) y by rw [HE.out, show n - k = (n - (k + 1)) + 1 by omega, powN, ← hy])
      clear hy
      by_cases hm2 : most < y
      · have hm3 : (most : Int) < (y : Int) := by omega
        have HR := Lib.hid (show powN b most n 1 = y by rw [HS.out, if_pos hm2])
        clear hm2
        go_wp2_with fail
        go_ret
        exact ⟨ret_int (by rw [HR.out]), by first | rfl | trivial⟩
      · have hm3 : ¬ (most : Int) < (y : Int) := by omega
        have HR := Lib.hid (show powN b most n 1 = powN b most (n - (k + 1)) y by rw [HS.out, if_neg hm2])
        go_wp2_with fail
        go_roundw
        case rel => exact ⟨k + 1, y, by omega, by go_num, rfl, by omega, HR.out, trivial⟩
        case measure => simp [intOf] <;> omega
    · obtain rfl : k = n := by omega
      have HR := Lib.hid (show powN b most k 1 = x by rw [HE.out, Nat.sub_self, powN])
      go_wp2_with fail
      go_ret
      exact ⟨ret_int (by rw [HR.out]), by first | rfl | trivial⟩
end Go.Proofs.Ytlhnfdjidjgfgaa
namespace Go.Proofs.Ytlhnfdjidjgfgaa
open Go.RowKit Go.Shelf
set_option linter.unusedVariables false
set_option maxHeartbeats 400000

def renH (l : List Int) (h : Int) : Nat → Int
  | 0 => h
  | n + 1 => if gI l n = h then -(n : Int) - 1 else renH l h n
mutual
def T.renum (l : List Int) : T → T
  | .node h ks => .node (renH l h l.length) (renumL l ks)
def renumL (l : List Int) : List T → List T
  | [] => []
  | t :: r => t.renum l :: renumL l r
end
theorem renumL_append (l : List Int) : ∀ (a b : List T), renumL l (a ++ b) = renumL l a ++ renumL l b
  | [], b => rfl
  | t :: r, b => by simp [renumL, renumL_append l r b]
theorem renumL_take (l : List Int) {ks : List T} {k : Nat} (h : k < ks.length) : renumL l (ks.take (k + 1)) = renumL l (ks.take k) ++ [(gK ks k).renum l] := by
  rw [take_gK h, renumL_append]; rfl
theorem renumL_length (l : List Int) : ∀ (ks : List T), (renumL l ks).length = ks.length
  | [] => rfl
  | t :: r => by simp [renumL, renumL_length l r]
theorem T.renum_eq (l : List Int) (t : T) : t.renum l = .node (renH l t.head l.length) (renumL l t.kids) := by cases t; rfl

theorem Elt.Row.rowP {p : Nat → Prop} {w : World} {ao : Option Addr} {ks : List T} (h : treeE.Row p w ao ks) : RowP p w ao ks := fun i hi => by
  obtain ⟨b, off, k, sp, e, hp, h1, h2, h3⟩ := h.tree hi
  rw [gK_get hi]
  exact ⟨b, off, k, sp, e, hp, h1, h2, h3⟩
theorem RowP.elt {p : Nat → Prop} {w : World} {ao : Option Addr} {ks : List T} (h : RowP p w ao ks) : treeE.Row p w ao ks := fun i x hx => by
  obtain ⟨hi, rfl⟩ := List.getElem?_eq_some_iff.1 hx
  obtain ⟨b, off, k, sp, e, hp, h1, h2, h3⟩ := h i hi
  rw [gK_get hi] at h1 h2 h3
  refine ⟨b, off, _, e, hp, fun j u hu => ?_, k, sp, rfl, h3⟩
  match j with
  | 0 => simp at hu; subst hu; exact h1
  | 1 => simp at hu; subst hu; exact h2
  | j + 2 => simp at hu

set_option maxRecDepth 100000 in
set_option maxHeartbeats 4000000 in
theorem renumbered69 (l : List Int) (hl : l.length ≤ 100000000) (t : T) : ∀ (p q : Nat → Prop) (w : World) (v : Value) (lo : Option Addr) (lc : Nat), TreeP p w v t → intE.Row q w lo l → t.size ≤ 100000000 →
    Calls Try.prog 98 #[v, .slice lo l.length lc] w fun e w' => ∃ u, e = .returned u ∧ TreeP (fun b => w.heap.size ≤ b) w' u (t.renum l) ∧ Below w.heap.size w w' := by
  induction t using T.ind with
  | h t ih =>
  intro p q w v lo lc ht hil hsz
  obtain ⟨ao, sp, rfl, hr, hml⟩ := ht.open
  have hml : t.kids.length ≤ 9223372036854775807 := hml
  have HR := Lib.hid hr; have IH := Lib.hid ih; have HI := Lib.hid hil; have HSZ := Lib.hid hsz
  have HTR := Lib.hid (t.renum_eq l)
  clear ht hr ih hil hsz
  obtain ⟨i44, gi, gz0, gz1, gz2⟩ := info_parts info44
  obtain ⟨bx, hbx⟩ : ∃ b, b = w.heap.size := ⟨_, rfl⟩
  have S1 := (((St.start w).box hbx.symm #[.int .i64 t.head, .slice ao t.kids.length (t.kids.length + sp)] 38).box (b := bx + 1) (by simp [hbx]) #[.int .i64 0, .slice none 0 0] 38).box (b := bx + 2) (by simp [hbx]) #[.int .i64 t.head, .slice none 0 0] 38
  have hsz1 : (((w.alloc (.cells #[.int .i64 t.head, .slice ao t.kids.length (t.kids.length + sp)] 38)).alloc (.cells #[.int .i64 0, .slice none 0 0] 38)).alloc (.cells #[.int .i64 t.head, .slice none 0 0] 38)).heap.size = bx + 3 := by simp [hbx]
  go_enter Try.func98, Try.ntmps98
  go_wp2_with fail
  rw [← hbx]
  refine S1.genC (z := bx + 3) (by omega) ?_
  intro w1 z1 S
  have HBX := Lib.hid hbx
  clear S1 hbx hsz1
  change St w w1 [.box bx _ 38, .box (bx + 1) _ 38, .box (bx + 2) #[.int .i64 t.head, .slice none 0 0] 38] at S
  go_loopw [6] (fun i wr => ∃ k : Nat, k ≤ l.length ∧ i = .int .i64 k ∧ bx + 3 ≤ wr.heap.size ∧ St w wr [.box bx #[.int .i64 t.head, .slice ao t.kids.length (t.kids.length + sp)] 38, .box (bx + 1) #[.int .i64 0, .slice none 0 0] 38, .box (bx + 2) #[.int .i64 (renH l t.head k), .slice none 0 0] 38]) (fun i _ => l.length - (intOf i).toNat)
  case atStart => exact ⟨0, by omega, rfl, z1, S⟩
  case round =>
    clear S
    obtain ⟨k, hk, rfl, z2, S⟩ := hrel
    by_cases hlt : k < l.length
    · have hlti : (k : Int) < (l.length : Int) := by omega
      obtain ⟨⟨x0, _⟩, x1, _⟩ := S.two 0
      obtain ⟨b, off, rfl, _, c0⟩ := (HI.out.kept S.bel).int hlt
      have r0 := cell_regrown x0; have r1 := cell_regrown c0
      go_wp2_with fail
      refine wp_region_quiet_below (by kernel_rfl) (by kernel_rfl) ?_
      repeat (go_big_quiet_step (fail))
      refine wpQuiet_nil ?_
      intro _ hw'
      obtain ⟨⟨dq, osq⟩, hw''⟩ := hw'
      subst hw''
      refine (S.regrown dq osq).genX (z := bx + 3) (Nat.le_trans z2 (below_regrown wr dq osq).size) ?_
      intro w2 z3 S2
      clear r0 r1 S x0 x1 c0
      by_cases he : l[k] = t.head
      · have heb : (l[k] == t.head) = true := by simp [he]
        have S3 := Lib.hid (S2.set20 2 rfl (.int .i64 (-(k : Int) - 1)) (by have := HBX.out; omega) (by simp only [offs, offAll, Fct.box, and_true]; omega))
        have HN := Lib.hid (show renH l t.head (k + 1) = -(k : Int) - 1 by rw [renH, if_pos (by rw [gI_get hlt]; exact he)])
        obtain ⟨⟨y0, y1⟩, y2, y3⟩ := S2.two 2
        have hl2 := S2.lt 2
        clear S2 he
        go_wp2_with fail
        go_roundw
        case rel => exact ⟨k + 1, by omega, by go_num, by simpa using z3, by rw [HN.out]; exact S3.out⟩
        case measure => simp [intOf] <;> omega
      · have heb : (l[k] == t.head) = false := by simp [he]
        have HN := Lib.hid (show renH l t.head (k + 1) = renH l t.head k by rw [renH, if_neg (by rw [gI_get hlt]; exact he)])
        clear he
        go_wp2_with fail
        go_roundw
        case rel => exact ⟨k + 1, by omega, by go_num, z3, by rw [HN.out]; exact S2⟩
        case measure => simp [intOf] <;> omega
    · obtain rfl : k = l.length := by omega
      obtain ⟨H, hH⟩ : ∃ H, H = renH l t.head l.length := ⟨_, rfl⟩
      rw [← hH] at S HTR
      clear hH
      have S := S.add (.owns treeE (bx + 3) (fun b => bx + 3 ≤ b) (.slice none 0 0) []) (Elt.Own.nil _ _ _ _)
      change St w wr [.box bx _ 38, .box (bx + 1) _ 38, .box (bx + 2) _ 38, .owns treeE (bx + 3) (fun b => bx + 3 ≤ b) (.slice none 0 0) []] at S
      go_wp2_with fail
      go_loopw [7] (fun i wr => ∃ (k : Nat) (o : Value), k ≤ t.kids.length ∧ i = .int .i64 k ∧ bx + 3 ≤ wr.heap.size ∧ St w wr [.box bx #[.int .i64 t.head, .slice ao t.kids.length (t.kids.length + sp)] 38, .box (bx + 1) #[.int .i64 0, .slice none 0 0] 38, .box (bx + 2) #[.int .i64 H, o] 38, .owns treeE (bx + 3) (fun b => bx + 3 ≤ b) o (renumL l (t.kids.take k))]) (fun i _ => t.kids.length - (intOf i).toNat)
      case atStart => exact ⟨0, _, by omega, rfl, z2, S⟩
      case round =>
        clear S
        obtain ⟨k, o, hk, rfl, z3, S⟩ := hrel
        by_cases hlt2 : k < t.kids.length
        · have hlti2 : (k : Int) < (t.kids.length : Int) := by omega
          obtain ⟨b, off, ko, ksp, rfl, _, c0, c1, c2⟩ := (HR.out.kept S.bel) k hlt2
          have hkm : k ≤ 100000000 := by have h1 := length_le_sizeL t.kids; have h2 := HSZ.out; rw [T.size_eq] at h2; omega
          have HKS := Lib.hid (show (gK t.kids k).size ≤ 100000000 by have h1 := kid_size hlt2; have h2 := HSZ.out; rw [T.size_eq] at h2; omega)
          have HTT := Lib.hid (renumL_take l hlt2)
          have hlk : (renumL l (t.kids.take k)).length = k := by rw [renumL_length]; simp; omega
          have SD := Lib.hid S.drew
          have HTK := Lib.hid (c2.kept (w' := wr.drew) (Below.refl _ _).drew)
          have HIR := Lib.hid (HI.out.kept SD.out.bel)
          obtain ⟨⟨x0, _⟩, x1, _⟩ := S.two 0
          go_wp2_with fail
          obtain ⟨⟨y0, _⟩, y1, _⟩ := SD.out.two 2
          obtain ⟨⟨v0, _⟩, v1, _⟩ := SD.out.two 0
          have d0 : wr.drew.cell? ⟨b, off + k * 2, none⟩ = some (.int .i64 (gK t.kids k).head) := c0
          have d1 : wr.drew.cell? ⟨b, off + k * 2 + 1, none⟩ = some (.slice ko (gK t.kids k).kids.length ((gK t.kids k).kids.length + ksp)) := c1
          clear c0 c1 c2 x0 x1 S
          go_region_law (first
            | (refine step_app (by rfl) (.tmp 36) (.tmp 44) 32 (by rfl) treeE S2 3 rfl (x := (gK t.kids k).renum l) (q := fun b => wr.heap.size ≤ b ∧ b < w2.heap.size) (p' := fun b => bx + 3 ≤ b) ⟨ka2, sa2, rfl, S2.tree 4⟩ Try.underlying32 gi gz0 gz1 gz2 (by rfl) (by rfl) (by rfl) (by rfl) (by unfold maxLen; omega) (by omega) (by omega) (by have := HBX.out; omega)
                (fun bb h1 h2 h3 => by have h4 := (SD.out.ownlt treeE 3 rfl bb h1).2; have h4 : bb < wr.heap.size := h4; have h6 : wr.drew.heap.size = wr.heap.size := rfl; simp only [fsnoc, offs, offAll, Fct.box, Fct.tree, and_true]; omega) (fun bb h1 h2 => by have h4 : bb < wr.heap.size := (SD.out.ownlt treeE 3 rfl bb h2).2; have h5 := h1.1; omega) (fun bb h1 => by rcases h1 with h1 | h1; exact h1; have h5 := h1.1; omega) ?_; intro gg cap w3 S3 hs3 hgg hat3; obtain ⟨⟨u0, u1⟩, u2, u3⟩ := S3.two 2; have hl3 := S3.lt 2)
            | (go_simp; go_at_call 98; refine (SD.out.made (IH.out k hlt2 p q _ _ lo lc HTK.out HIR.out HKS.out)).mono ?_; rintro e w2 ⟨ka2, sa2, rfl, hz2, S2⟩; have hz2 : wr.heap.size ≤ w2.heap.size := hz2; have hlo2 := S2.lt 2; have hlo0 := S2.lt 0; obtain ⟨⟨z0, _⟩, z1, _⟩ := S2.two 2; obtain ⟨⟨q0, _⟩, q1, _⟩ := S2.two 0))
          all_goals
            have S4 := (S3.set21 2 rfl (.slice (some ⟨gg, 0, none⟩) ((renumL l (t.kids.take k)).length + 1) cap) (by have := HBX.out; omega) (by simp only [fset, fsnoc, offs, offAll, Fct.box, Fct.tree, and_true]; have := S3.ownlt treeE 3; have h7 : w2.heap.size ≤ w3.heap.size := hs3; have h6 : wr.drew.heap.size = wr.heap.size := rfl; refine ⟨by omega, by omega, fun e => ?_, by omega⟩; rcases e with e | e; have h8 := (S3.ownlt treeE 3 rfl (bx + 2) e).1; omega; omega)).pick [0, 1, 2, 3]
            rw [← HTT.out, hlk] at S4
            have S5 := Lib.hid S4
            clear S4 S3 S2 y0 y1 v0 v1 d0 d1 z0 z1 q0 q1
            go_wp2_with fail
            go_roundw
            case rel => exact ⟨k + 1, _, by omega, by go_num, by simp; omega, S5.out⟩
            case measure => simp [intOf] <;> omega
        · obtain rfl : k = t.kids.length := by omega
          rw [List.take_length] at S
          obtain ⟨ro, rsp, rfl, hrow, hml2⟩ := (S.owns treeE 3).row (fun b h => h)
          have HT := Lib.hid hrow
          have SB := Lib.hid S
          obtain ⟨⟨x0, _⟩, x1, _⟩ := S.two 0
          obtain ⟨⟨y0, y1⟩, y2, y3⟩ := S.two 1
          obtain ⟨⟨v0, _⟩, v1, _⟩ := S.two 2
          have hl1 := S.lt 1
          clear hrow S
          go_wp2_with fail
          refine ret_box2 (.int .i64 H) (.slice ro (renumL l t.kids).length ((renumL l t.kids).length + rsp)) (bx + 1) 38 (box2_set (SB.out.block 1) _ _) (fun w' q0 q1 => by simp [results, Try.results98, go_sem, q0, q1]) rfl ?_
          refine ⟨_, rfl, ?_, ((SB.out.bel.setCell (p := ⟨bx + 1, 0, none⟩) (by have := HBX.out; show w.heap.size ≤ bx + 1; omega) _).setCell (p := ⟨bx + 1, 1, none⟩) (by have := HBX.out; show w.heap.size ≤ bx + 1; omega) _)⟩
          rw [HTR.out]
          have h8 := TreeP.close (h := H) (sp := rsp) HT.out.rowP hml2
          exact ((h8.setCell (a := ⟨bx + 1, 0, none⟩) (by simp) _).setCell (a := ⟨bx + 1, 1, none⟩) (by simp) _).mono (fun b h _ => by have := HBX.out; omega)
end Go.Proofs.Ytlhnfdjidjgfgaa
namespace Go.Proofs.Ytlhnfdjidjgfgaa
open Go.RowKit Go.Shelf
set_option linter.unusedVariables false

def numZ (l : List Int) (h : Int) : Nat → Int
  | 0 => 0
  | n + 1 => if gI l n = h then -(n : Int) - 1 else numZ l h n
def numL (l : List Int) (h : Int) : Int := numZ l h l.length
theorem numZ_range (l : List Int) (h : Int) : ∀ n : Nat, numZ l h n ≤ 0 ∧ -(n : Int) ≤ numZ l h n
  | 0 => by simp [numZ]
  | n + 1 => by
    have := numZ_range l h n
    rw [numZ]; split <;> omega
theorem numZ_zero (l : List Int) (h : Int) : ∀ n : Nat, numZ l h n = 0 ↔ ∀ j, j < n → gI l j ≠ h
  | 0 => by simp [numZ]
  | n + 1 => by
    have ih := numZ_zero l h n
    rw [numZ]
    split
    · rename_i e
      refine ⟨fun h1 => by omega, fun h1 => absurd e (h1 n (by omega))⟩
    · rename_i e
      rw [ih]
      refine ⟨fun h1 j hj => ?_, fun h1 j hj => h1 j (by omega)⟩
      rcases Nat.lt_succ_iff_lt_or_eq.1 hj with h2 | rfl
      · exact h1 j h2
      · exact e
theorem numL_zero (l : List Int) (h : Int) : numL l h = 0 ↔ h ∉ l := by
  unfold numL
  rw [numZ_zero]
  refine ⟨fun h1 hm => ?_, fun h1 j hj e => h1 (by rw [← e, gI_get hj]; exact List.getElem_mem hj)⟩
  obtain ⟨j, hj, e⟩ := List.getElem_of_mem hm
  exact h1 j hj (by rw [gI_get hj, e])
theorem numZ_append (l m : List Int) (h : Int) : ∀ n : Nat, n ≤ l.length → numZ (l ++ m) h n = numZ l h n
  | 0, _ => rfl
  | n + 1, hn => by
    rw [numZ, numZ, numZ_append l m h n (by omega)]
    have e : gI (l ++ m) n = gI l n := by simp [gI, List.getElem?_append_left (show n < l.length by omega)]
    rw [e]
theorem numL_snoc (l : List Int) (x h : Int) : numL (l ++ [x]) h = if x = h then -(l.length : Int) - 1 else numL l h := by
  unfold numL
  rw [List.length_append]
  show numZ (l ++ [x]) h (l.length + 1) = _
  rw [numZ, numZ_append _ _ _ _ (Nat.le_refl _)]
  have e : gI (l ++ [x]) l.length = x := by simp [gI]
  rw [e]
theorem renH_numZ (l : List Int) (h : Int) : ∀ n : Nat, renH l h n = if numZ l h n = 0 then h else numZ l h n
  | 0 => by simp [renH, numZ]
  | n + 1 => by
    rw [renH, numZ]
    by_cases e : gI l n = h
    · rw [if_pos e, if_pos e, if_neg (by omega)]
    · rw [if_neg e, if_neg e]; exact renH_numZ l h n
/-- more variables behind, none of them old -/
def Ext (l m : List Int) : Prop := ∃ r, m = l ++ r ∧ ∀ x ∈ r, x ∉ l
theorem Ext.refl (l : List Int) : Ext l l := ⟨[], by simp, fun x h => by simp at h⟩
theorem Ext.trans {a b c : List Int} (h1 : Ext a b) (h2 : Ext b c) : Ext a c := by
  obtain ⟨r, rfl, hr⟩ := h1
  obtain ⟨s, rfl, hs⟩ := h2
  refine ⟨r ++ s, by simp, fun x hx => ?_⟩
  rcases List.mem_append.1 hx with h | h
  · exact hr x h
  · exact fun e => hs x h (List.mem_append_left _ e)
theorem Ext.mem {a b : List Int} (h : Ext a b) {x : Int} (hx : x ∈ a) : x ∈ b := by
  obtain ⟨r, rfl, _⟩ := h
  exact List.mem_append_left _ hx
theorem numL_ext_aux : ∀ (r l : List Int) (h : Int), h ∉ r → numL (l ++ r) h = numL l h
  | [], l, h, _ => by simp
  | x :: r, l, h, hh => by
    have e : l ++ x :: r = (l ++ [x]) ++ r := by simp
    rw [e, numL_ext_aux r (l ++ [x]) h (fun hm => hh (List.mem_cons_of_mem _ hm)), numL_snoc, if_neg (fun e => hh (by rw [e]; simp))]
theorem Ext.num {a b : List Int} (h : Ext a b) {x : Int} (hx : x ∈ a) : numL b x = numL a x := by
  obtain ⟨r, rfl, hr⟩ := h
  exact numL_ext_aux r a x (fun hm => hr x hm hx)

mutual
/-- a tree with its variables' numbers, its variables' kids dropped -/
def T.ren (l : List Int) : T → T
  | .node h ks => if h < 0 then .node (numL l h) [] else .node h (renL l ks)
def renL (l : List Int) : List T → List T
  | [] => []
  | t :: r => t.ren l :: renL l r
end
theorem renL_append (l : List Int) : ∀ (a b : List T), renL l (a ++ b) = renL l a ++ renL l b
  | [], b => rfl
  | t :: r, b => by simp [renL, renL_append l r b]
theorem renL_length (l : List Int) : ∀ (ks : List T), (renL l ks).length = ks.length
  | [] => rfl
  | t :: r => by simp [renL, renL_length l r]
theorem T.ren_neg {l : List Int} {t : T} (h : t.head < 0) : t.ren l = .node (numL l t.head) [] := by
  cases t with | node h ks => simp only [T.ren]; exact if_pos h
theorem T.ren_pos {l : List Int} {t : T} (h : ¬ t.head < 0) : t.ren l = .node t.head (renL l t.kids) := by
  cases t with | node h ks => simp only [T.ren]; exact if_neg h

mutual
/-- all variables that order looks at are in the list -/
def T.cov (l : List Int) : T → Prop
  | .node h ks => (h < 0 → h ∈ l) ∧ (¬ h < 0 → covL l ks)
def covL (l : List Int) : List T → Prop
  | [] => True
  | t :: r => t.cov l ∧ covL l r
end
mutual
theorem T.cov_ext {a b : List Int} (h : Ext a b) : ∀ {t : T}, t.cov a → t.cov b ∧ t.ren b = t.ren a
  | .node hd ks, hc => by
    rw [T.cov] at hc
    by_cases hn : hd < 0
    · refine ⟨by rw [T.cov]; exact ⟨fun _ => h.mem (hc.1 hn), fun e => absurd hn e⟩, ?_⟩
      simp only [T.ren, if_pos hn]
      rw [h.num (hc.1 hn)]
    · have h1 := covL_ext h (hc.2 hn)
      refine ⟨by rw [T.cov]; exact ⟨fun e => absurd e hn, fun _ => h1.1⟩, ?_⟩
      simp only [T.ren, if_neg hn]
      rw [h1.2]
theorem covL_ext {a b : List Int} (h : Ext a b) : ∀ {ks : List T}, covL a ks → covL b ks ∧ renL b ks = renL a ks
  | [], _ => ⟨trivial, rfl⟩
  | t :: r, hc => by
    have h1 := T.cov_ext h hc.1
    have h2 := covL_ext h hc.2
    exact ⟨⟨h1.1, h2.1⟩, by simp only [renL]; rw [h1.2, h2.2]⟩
end
mutual
theorem T.order_ext : ∀ (t : T) (had : List Int), Ext had (t.order had) ∧ t.cov (t.order had)
  | .node h ks, had => by
    simp only [T.order, T.cov]
    by_cases hn : h < 0
    · rw [if_pos hn]
      by_cases hm : h ∈ had
      · rw [if_pos hm]
        exact ⟨Ext.refl _, fun _ => hm, fun e => absurd hn e⟩
      · rw [if_neg hm]
        exact ⟨⟨[h], rfl, fun x hx => by simp at hx; subst hx; exact hm⟩, fun _ => by simp, fun e => absurd hn e⟩
    · rw [if_neg hn]
      have := orderL_ext ks had
      exact ⟨this.1, fun e => absurd e hn, fun _ => this.2⟩
theorem orderL_ext : ∀ (l : List T) (had : List Int), Ext had (orderL l had) ∧ covL (orderL l had) l
  | [], had => ⟨Ext.refl _, trivial⟩
  | t :: r, had => by
    have h1 := T.order_ext t had
    have h2 := orderL_ext r (t.order had)
    simp only [orderL]
    exact ⟨h1.1.trans h2.1, (T.cov_ext h2.1 h1.2).1, h2.2⟩
end
theorem renL_orderL_take {l : List T} {i : Nat} (h : i < l.length) (had : List Int) :
    renL (orderL (l.take (i + 1)) had) (l.take (i + 1)) = renL (orderL (l.take i) had) (l.take i) ++ [(gK l i).ren ((gK l i).order (orderL (l.take i) had))] := by
  have e := orderL_take h had
  have h1 := T.order_ext (gK l i) (orderL (l.take i) had)
  have h2 := (orderL_ext (l.take i) had).2
  rw [e, take_gK h, renL_append, (covL_ext h1.1 h2).2]
  rfl
mutual
/-- where variables have no kids, and every variable is in the list, the document's renumbered is the same -/
theorem T.ren_renum {l : List Int} (hl : ∀ x ∈ l, x < 0) : ∀ {t : T}, t.cov l → (∀ x ∈ t.pre, x.head < 0 → x.kids = []) → t.ren l = t.renum l
  | .node h ks, hc, hk => by
    rw [T.cov] at hc
    simp only [T.ren, T.renum]
    by_cases hn : h < 0
    · have h1 : ks = [] := hk (.node h ks) (by rw [T.pre]; simp) hn
      subst h1
      rw [if_pos hn, renH_numZ]
      have h2 : numL l h ≠ 0 := fun e => (numL_zero l h).1 e (hc.1 hn)
      have h2 : ¬ numZ l h l.length = 0 := h2
      rw [if_neg h2]; rfl
    · rw [if_neg hn, renH_numZ]
      have h2 : numZ l h l.length = 0 := (numL_zero l h).2 (fun e => hn (hl h e))
      rw [if_pos h2, renL_renumL hl (hc.2 hn) (fun x hx => hk x (by rw [T.pre]; exact List.mem_cons_of_mem _ hx))]
theorem renL_renumL {l : List Int} (hl : ∀ x ∈ l, x < 0) : ∀ {ks : List T}, covL l ks → (∀ x ∈ preL ks, x.head < 0 → x.kids = []) → renL l ks = renumL l ks
  | [], _, _ => rfl
  | t :: r, hc, hk => by
    simp only [renL, renumL]
    rw [T.ren_renum hl hc.1 (fun x hx => hk x (by simp [preL, hx])), renL_renumL hl hc.2 (fun x hx => hk x (by simp [preL, hx]))]
end
mutual
theorem T.order_neg : ∀ (t : T) (had : List Int), (∀ x ∈ had, x < 0) → ∀ x ∈ t.order had, x < 0
  | .node h ks, had, hh => by
    simp only [T.order]
    by_cases hn : h < 0
    · rw [if_pos hn]
      by_cases hm : h ∈ had
      · rw [if_pos hm]; exact hh
      · rw [if_neg hm]; intro x hx
        rcases List.mem_append.1 hx with h1 | h1
        · exact hh x h1
        · simp at h1; subst h1; exact hn
    · rw [if_neg hn]; exact orderL_neg ks had hh
theorem orderL_neg : ∀ (l : List T) (had : List Int), (∀ x ∈ had, x < 0) → ∀ x ∈ orderL l had, x < 0
  | [], had, hh => hh
  | t :: r, had, hh => by simp only [orderL]; exact orderL_neg r _ (T.order_neg t had hh)
end
end Go.Proofs.Ytlhnfdjidjgfgaa
namespace Go.Proofs.Ytlhnfdjidjgfgaa
open Go.RowKit Go.Shelf Go.Maps
set_option linter.unusedVariables false

theorem law3 : Keyed Try.prog 3 := int_keyed Try.underlying3
theorem zero3 (w : World) : (zeroValue 3).run Try.prog w = .ok (.int .i64 0) w := by kernel_rfl

/-- block b is a map that holds the numbers of the list's variables -/
def MapI (b : Nat) (L : List Int) (w : World) : Prop :=
  ∃ D : DataW Unit, w.ownsMap Try.prog 3 (plainElem Try.prog 3) b L.length D ∧ Maps.Tidy D ∧ Maps.size D = L.length ∧ (∀ z : Int, D.atKey (.int .i64 z) (.lit (.int .i64 0)) = .lit (.int .i64 (numL L z))) ∧ ∀ z : Int, (Maps.has D (.int .i64 z) = true ↔ z ∈ L)
theorem MapI.made (w : World) : MapI w.heap.size [] (w.alloc (.map #[] 0)) :=
  ⟨.map [], World.ownsMap_made _ _ _ _, tidy_empty, rfl, fun z => rfl, fun z => by simp [Maps.has]⟩
theorem MapI.put {b : Nat} {L : List Int} {w1 : World} {D : DataW Unit} {z : Int} (hz : z ∉ L) (ht : Maps.Tidy D) (hs : Maps.size D = L.length) (ha : ∀ z : Int, D.atKey (.int .i64 z) (.lit (.int .i64 0)) = .lit (.int .i64 (numL L z))) (hh : ∀ z : Int, (Maps.has D (.int .i64 z) = true ↔ z ∈ L))
    (ho : w1.ownsMap Try.prog 3 (plainElem Try.prog 3) b (L.length + 1) (D.put (.int .i64 z) (.lit (.int .i64 (-(L.length : Int) - 1))))) : MapI b (L ++ [z]) w1 := by
  have hk : WideAt.IsKeyLit (.int .i64 z) := by simp [WideAt.IsKeyLit]
  have hne : ∀ y, y ≠ z → (Lit.int .i64 y) ≠ .int .i64 z := fun y h e => h (by injection e)
  refine ⟨_, by simpa using ho, ht.put hk _, ?_, fun y => ?_, fun y => ?_⟩
  · rw [size_put ht, if_neg (by rw [hh]; exact hz), hs]; simp
  · rw [numL_snoc]
    by_cases e : z = y
    · subst e; rw [if_pos rfl, atKey_put_same ht.isMap hk]
    · rw [if_neg e, atKey_put_other (hne y (fun h => e h.symm)), ha]
  · by_cases e : y = z
    · subst e; simp [has_put_same ht.isMap hk]
    · rw [has_put_other (hne y e), hh]; simp [e]

def Fct.mapI (b : Nat) (L : List Int) : Fct :=
  ⟨fun c => c = b, MapI b L, fun w w' h hm => by
    obtain ⟨D, ⟨es, clock, hb, r⟩, r2⟩ := hm
    exact ⟨D, ⟨es, clock, (h b rfl (Array.getElem?_eq_some_iff.1 hb).1).trans hb, r⟩, r2⟩⟩
theorem St.mapI {w0 w : World} {l : List Fct} (S : St w0 w l) (i : Nat) {b : Nat} {L : List Int} (h : Fct.at l i = Fct.mapI b L := by rfl) : MapI b L w := by
  have := S.2 i
  rw [h] at this; exact this
theorem MapI.lt {b : Nat} {L : List Int} {w : World} (h : MapI b L w) : b < w.heap.size := by
  obtain ⟨D, h1, _⟩ := h
  exact h1.lt
/-- a variable's number has been laid -/
theorem St.mapPut {w0 w w1 : World} {l : List Fct} (S : St w0 w l) (i : Nat) {b : Nat} {L M : List Int} (hi : Fct.at l i = Fct.mapI b L) (hm : MapI b M w1) (hg : w.grownBy w1 (some b)) (h0 : w0.heap.size ≤ b) (hoff : offs b i l) : St w0 w1 (fset l i (.mapI b M)) := by
  refine ⟨S.bel.grown hg S.size (fun c hc => by cases hc; exact h0), fun j => ?_⟩
  by_cases hj : j = i
  · subst hj
    rcases at_fset_same (.mapI b M) l j with h | h
    · rw [h]; exact hm
    · rw [h]; trivial
  · rw [at_fset_other _ _ _ _ hj]
    exact (Fct.at l j).stable w w1 (fun c hc hl => hg.block c hl (fun e => by cases e; exact offs_at hoff j hj hc)) (S.2 j)
end Go.Proofs.Ytlhnfdjidjgfgaa
namespace Go.Proofs.Ytlhnfdjidjgfgaa
open Go.RowKit Go.Shelf Go.Maps
set_option linter.unusedVariables false
set_option maxHeartbeats 400000

/-- all blocks of w but b are as they were -/
def Fct.kept (w : World) (b : Nat) : Fct :=
  ⟨fun c => c < w.heap.size ∧ c ≠ b, fun W => ∀ c, c < w.heap.size → c ≠ b → W.heap[c]? = w.heap[c]?, fun W W' h hh c h1 h2 => by
    by_cases hc : c < W.heap.size
    · exact (h c ⟨h1, h2⟩ hc).trans (hh c h1 h2)
    · have := hh c h1 h2
      rw [Array.getElem?_eq_none (by omega), eq_comm, Array.getElem?_eq_none_iff] at this
      omega⟩
theorem St.kept {w0 w : World} {l : List Fct} (S : St w0 w l) (i : Nat) {W : World} {b : Nat} (h : Fct.at l i = Fct.kept W b := by rfl) : ∀ c, c < W.heap.size → c ≠ b → w.heap[c]? = W.heap[c]? := by
  have := S.2 i
  rw [h] at this; exact this
theorem St.madeM {P : Program} {n : Nat} {a : Array Value} {w0 w : World} {l : List Fct} (S : St w0 w l) (i : Nat) {b : Nat} {L M : List Int} {R : T} (hi : Fct.at l i = .mapI b L) (hoff : offs b i l)
    (h : Calls P n a w fun e w' => ∃ u, e = .returned u ∧ TreeP (fun c => w.heap.size ≤ c) w' u R ∧ MapI b M w' ∧ (∀ c, c < w.heap.size → c ≠ b → w'.heap[c]? = w.heap[c]?) ∧ w.heap.size ≤ w'.heap.size ∧ Below w0.heap.size w0 w') :
    Calls P n a w fun e w' => ∃ k sp, e = .returned (.agg #[.int .i64 R.head, .slice k R.kids.length (R.kids.length + sp)]) ∧ w.heap.size ≤ w'.heap.size ∧
      St w0 w' (fsnoc (fset l i (.mapI b M)) (.tree w.heap.size w'.heap.size (.agg #[.int .i64 R.head, .slice k R.kids.length (R.kids.length + sp)]) R)) :=
  h.mono fun e w' ⟨u, h1, h2, h3, h4, h5, h6⟩ => by
    obtain ⟨k, sp, rfl⟩ := h2.at.form
    have S2 : St w0 w' (fset l i (.mapI b M)) := by
      refine ⟨h6, fun j => ?_⟩
      by_cases hj : j = i
      · subst hj
        rcases at_fset_same (.mapI b M) l j with h | h
        · rw [h]; exact h3
        · rw [h]; trivial
      · rw [at_fset_other _ _ _ _ hj]
        exact (Fct.at l j).stable w w' (fun c hc hl => h4 c hl (fun e => offs_at hoff j hj (e ▸ hc))) (S.2 j)
    exact ⟨k, sp, h1, h5, S2.add (.tree _ _ _ _) (h2.upto (w0 := w0))⟩
theorem MapI.look {b : Nat} {L : List Int} {w : World} (h : MapI b L w) : ∃ D : DataW Unit, w.ownsMap Try.prog 3 (plainElem Try.prog 3) b L.length D ∧ Hid (Maps.size D = L.length) ∧ (∀ z c : Int, D.atKey (.int .i64 z) (.lit (.int .i64 0)) = .lit (.int .i64 c) → c = numL L z) ∧
    ∀ (z : Int) (w1 : World), z ∉ L → w1.ownsMap Try.prog 3 (plainElem Try.prog 3) b (L.length + 1) (D.put (.int .i64 z) (.lit (.int .i64 (-(L.length : Int) - 1)))) → MapI b (L ++ [z]) w1 := by
  obtain ⟨D, h1, h2, h3, h4, h5⟩ := h
  exact ⟨D, h1, h3, fun z c hc => by rw [h4] at hc; injection hc with hc; injection hc with _ hc; exact hc.symm, fun z w1 hz ho => MapI.put hz h2 h3 h4 h5 ho⟩
def lowT (t : T) : Prop := ∀ x ∈ t.pre, -1000 ≤ x.head
theorem lowT.self {t : T} (h : lowT t) : -1000 ≤ t.head := h t (by rw [T.pre_eq]; simp)
theorem preL_mem {ks : List T} {i : Nat} (hi : i < ks.length) {x : T} (hx : x ∈ (gK ks i).pre) : x ∈ preL ks := by
  have h1 : x ∈ preL (ks.take (i + 1)) := by rw [preL_take hi]; exact List.mem_append_right _ hx
  exact (preL_take_prefix ks (i + 1)).subset h1
theorem lowT.kid {t : T} (h : lowT t) {i : Nat} (hi : i < t.kids.length) : lowT (gK t.kids i) := fun x hx => h x (by rw [T.pre_eq]; exact List.mem_cons_of_mem _ (preL_mem hi hx))
theorem wf64 {z : Int} (h1 : -9223372036854775808 ≤ z) (h2 : z ≤ 9223372036854775807) : (Lit.int .i64 z).wf = true := by
  simp only [Lit.wf, IntKind.min, IntKind.max, IntKind.signed, IntKind.bits, Bool.and_eq_true, decide_eq_true_eq, if_true]
  omega

set_option maxRecDepth 100000 in
set_option maxHeartbeats 4000000 in
theorem term105 (t : T) : ∀ (p : Nat → Prop) (w0 w : World) (b : Nat) (v : Value) (L : List Int), (∀ c, p c → c < w0.heap.size) → w0.heap.size ≤ b → TreeP p w0 v t → St w0 w [.mapI b L] → lowT t → L.length + t.size ≤ 100000000 →
    Calls Try.prog 138 #[.map (some b), v] w fun e w' => ∃ u, e = .returned u ∧ TreeP (fun c => w.heap.size ≤ c) w' u (t.ren (t.order L)) ∧ MapI b (t.order L) w' ∧ (∀ c, c < w.heap.size → c ≠ b → w'.heap[c]? = w.heap[c]?) ∧ w.heap.size ≤ w'.heap.size ∧ Below w0.heap.size w0 w' := by
  induction t using T.ind with
  | h t ih =>
  intro p w0 w b v L hp hbw ht S hlow hsz
  obtain ⟨ao, sp, rfl, hr, hml⟩ := ht.open
  have hml : t.kids.length ≤ 9223372036854775807 := hml
  have HR := Lib.hid hr; have IH := Lib.hid ih; have HP := Lib.hid hp; have HLOW := Lib.hid hlow
  have HB := Lib.hid (show b < w.heap.size from (S.mapI 0).lt)
  have HBW := Lib.hid hbw
  have HTE := Lib.hid (show t.order L = if t.head < 0 then (if t.head ∈ L then L else L ++ [t.head]) else orderL t.kids L by cases t; rfl)
  clear ht hr ih hp
  obtain ⟨bx, hbx⟩ : ∃ b, b = w.heap.size := ⟨_, rfl⟩
  have S0 := S.add (.kept w b) (fun c _ _ => rfl)
  have S1 := (S0.box hbx.symm #[.int .i64 t.head, .slice ao t.kids.length (t.kids.length + sp)] 38).box (b := bx + 1) (by simp [hbx]) #[.int .i64 0, .slice none 0 0] 38
  have hsz1 : ((w.alloc (.cells #[.int .i64 t.head, .slice ao t.kids.length (t.kids.length + sp)] 38)).alloc (.cells #[.int .i64 0, .slice none 0 0] 38)).heap.size = bx + 2 := by simp [hbx]
  clear S
  by_cases hneg : t.head < 0
  · subst hbx
    obtain ⟨D, hown, HD, HAT, HPUT⟩ := (S1.mapI 0).look
    have HPUT := Lib.hid HPUT
    have hkey : keyOf Try.prog 3 (.int .i64 t.head) = some (.int .i64 t.head) := keyOf_int_mk Try.underlying3 (wf64 (by have := hlow.self; omega) (by omega))
    have HRN := Lib.hid (T.ren_neg (l := t.order L) hneg)
    have hLl : L.length ≤ 100000000 := by omega
    clear hlow
    by_cases hm : t.head ∈ L
    · have hnz : numL L t.head ≠ 0 := fun e => (numL_zero L t.head).1 e hm
      have hnb : (numL L t.head == 0) = false := by simp [hnz]
      have HO := Lib.hid (show t.order L = L by rw [HTE.out, if_pos hneg, if_pos hm])
      clear hnz hm
      go_enter Try.func138, Try.ntmps138
      go_wp2_with (first
        | (at_len; refine wpList_len_own _ rfl _ 171 rfl 3 3 Try.underlying171 _ b L.length D rfl hown ?_; rw [show Maps.size D = L.length from HD])
        | (at_lookup; refine wpList_lookup_own_int _ rfl _ _ 171 rfl 3 3 .i64 law3 Try.underlying171 Try.underlying3 (zero3 _) b L.length D rfl hown _ _ rfl hkey ?_; intro c hat hwc; obtain rfl := HAT _ _ hat; clear hat hwc))
      have SF := (S0.box rfl #[.int .i64 t.head, .slice ao t.kids.length (t.kids.length + sp)] 38).box (b := w.heap.size + 1) (by simp) #[.int .i64 (numL L t.head), .slice none 0 0] 38
      refine ret_box2 (.int .i64 (numL L t.head)) (.slice none 0 0) (w.heap.size + 1) 38 (SF.block 3) (fun w' q0 q1 => by simp [results, Try.results138, go_sem, q0, q1]) rfl ?_
      refine ⟨_, rfl, ?_, by rw [HO.out]; exact SF.mapI 0, SF.kept 1, by simp; omega, SF.bel⟩
      rw [HRN.out, HO.out]
      exact TreeP.leaf _ _ _
    · have hz : numL L t.head = 0 := (numL_zero L t.head).2 hm
      have HZ := Lib.hid hz
      have HM := Lib.hid hm
      have HNS := Lib.hid (show numL (L ++ [t.head]) t.head = -(L.length : Int) - 1 by rw [numL_snoc, if_pos rfl])
      have HO := Lib.hid (show t.order L = L ++ [t.head] by rw [HTE.out, if_pos hneg, if_neg hm])
      have hwv : (Lit.int .i64 (-(L.length : Int) - 1)).wf = true := wf64 (by omega) (by omega)
      clear hz hm
      go_enter Try.func138, Try.ntmps138
      go_wp2_with (first
        | (at_len; refine wpList_len_own _ rfl _ 171 rfl 3 3 Try.underlying171 _ b L.length D rfl hown ?_; rw [show Maps.size D = L.length from HD])
        | (at_lookup; have _g := hown2; refine wpList_lookup_own_int _ rfl _ _ 171 rfl 3 3 .i64 law3 Try.underlying171 Try.underlying3 (zero3 _) b (L ++ [t.head]).length D2 rfl hown2 _ _ rfl hkey ?_; intro c hat hwc; obtain rfl := HAT2 _ _ hat; clear hat hwc; rw [HNS.out])
        | (at_lookup; refine wpList_lookup_own_int _ rfl _ _ 171 rfl 3 3 .i64 law3 Try.underlying171 Try.underlying3 (zero3 _) b L.length D rfl hown _ _ rfl hkey ?_; intro c hat hwc; obtain rfl := HAT _ _ hat; clear hat hwc; rw [HZ.out])
        | (at_mapUpdate; refine wpList_mapUpdate_own _ rfl _ _ _ 171 rfl 3 3 law3 Try.underlying171 _ b L.length D rfl hown (by unfold maxLen; omega) _ _ _ rfl rfl hkey _ [] (plainElem_int Try.underlying3 hwv) ?_; intro w1 hown1 hgrow1; have S2 := S1.mapPut 0 rfl (HPUT.out _ _ HM.out hown1) hgrow1 hbw (by simp only [fsnoc, offs, offAll, Fct.box, Fct.kept, and_true]; have := HB.out; omega); obtain ⟨D2, hown2, HD2, HAT2, _⟩ := (S2.mapI 0).look; obtain ⟨⟨x0, _⟩, x1, _⟩ := S2.two 2; obtain ⟨⟨y0, y1⟩, y2, y3⟩ := S2.two 3; have l3 := S2.lt 3; have hz1 := hgrow1.size))
      have SF := S2.set2 3 rfl (.int .i64 (-(L.length : Int) - 1)) (.slice none 0 0) (by have := HBW.out; have := HB.out; omega) (by simp only [fset, fsnoc, offs, offAll, Fct.box, Fct.kept, Fct.mapI, and_true]; have := HB.out; omega)
      refine ret_box2 (.int .i64 (-(L.length : Int) - 1)) (.slice none 0 0) (w.heap.size + 1) 38 (SF.block 3) (fun w' q0 q1 => by simp [results, Try.results138, go_sem, q0, q1]) rfl ?_
      refine ⟨_, rfl, ?_, by rw [HO.out]; exact SF.mapI 0, SF.kept 1, by simp at hz1 ⊢; omega, SF.bel⟩
      rw [HRN.out, HO.out, HNS.out]
      exact TreeP.leaf _ _ _
  · obtain ⟨i44, gi, gz0, gz1, gz2⟩ := info_parts info44
    have HSZ := Lib.hid hsz
    have HO := Lib.hid (show t.order L = orderL t.kids L by rw [HTE.out, if_neg hneg])
    have HRN := Lib.hid (T.ren_pos (l := t.order L) hneg)
    have S2 := S1.box (b := bx + 2) hsz1 #[.int .i64 t.head, .slice none 0 0] 38
    have S3 := S2.add (.owns treeE (bx + 3) (fun c => bx + 3 ≤ c) (.slice none 0 0) []) (Elt.Own.nil _ _ _ _)
    have hsz3 : (((w.alloc (.cells #[.int .i64 t.head, .slice ao t.kids.length (t.kids.length + sp)] 38)).alloc (.cells #[.int .i64 0, .slice none 0 0] 38)).alloc (.cells #[.int .i64 t.head, .slice none 0 0] 38)).heap.size = bx + 3 := by simp [hbx]
    clear S0 S1 S2 hsz1 hlow hsz
    go_enter Try.func138, Try.ntmps138
    go_wp2_with fail
    rw [← hbx]
    refine S3.genC (z := bx + 3) (by omega) ?_
    intro w1 z1 S
    have HBX := Lib.hid hbx
    clear S3 hbx hsz3
    go_loopw [36] (fun i wr => ∃ (k : Nat) (o : Value), k ≤ t.kids.length ∧ i = .int .i64 k ∧ bx + 3 ≤ wr.heap.size ∧ St w0 wr [.mapI b (orderL (t.kids.take k) L), .kept w b, .box bx #[.int .i64 t.head, .slice ao t.kids.length (t.kids.length + sp)] 38, .box (bx + 1) #[.int .i64 0, .slice none 0 0] 38, .box (bx + 2) #[.int .i64 t.head, o] 38,
      .owns treeE (bx + 3) (fun c => bx + 3 ≤ c) o (renL (orderL (t.kids.take k) L) (t.kids.take k))]) (fun i _ => t.kids.length - (intOf i).toNat)
    case atStart => exact ⟨0, _, by omega, rfl, z1, S⟩
    case round =>
      clear S
      obtain ⟨k, o, hk, rfl, z3, S⟩ := hrel
      by_cases hlt : k < t.kids.length
      · have hlti : (k : Int) < (t.kids.length : Int) := by omega
        obtain ⟨bk, hbk⟩ : ∃ b, b = wr.heap.size := ⟨_, rfl⟩
        obtain ⟨bb, off, ko, ksp, rfl, hpb, c0', c1', c2⟩ := HR.out k hlt
        have c0 := Below.cellOf S.bel c0'
        have c1 := Below.cellOf S.bel c1'
        have hkm : k ≤ 100000000 := by have h1 := length_le_sizeL t.kids; have h2 := HSZ.out; rw [T.size_eq] at h2; omega
        have HKS := Lib.hid (show (orderL (t.kids.take k) L).length + (gK t.kids k).size ≤ 100000000 by
          have h1 := HSZ.out; rw [T.size_eq] at h1
          have h2 := orderL_length (t.kids.take k) L
          have h3 := sizeL_take hlt
          have h4 := sizeL_take_le t.kids (k + 1)
          omega)
        have HTT := Lib.hid (renL_orderL_take hlt L)
        have HOT := Lib.hid (orderL_take hlt L)
        have hlk : (renL (orderL (t.kids.take k) L) (t.kids.take k)).length = k := by rw [renL_length]; simp; omega
        have HTK := Lib.hid c2
        have HOW := Lib.hid (show ∀ c, o.ownBlock = some c → bx + 3 ≤ c ∧ c < bk from fun c hc => by rw [hbk]; exact S.ownlt treeE 5 rfl c hc)
        have SK := S.box hbk.symm #[.int .i64 (gK t.kids k).head, .slice ko (gK t.kids k).kids.length ((gK t.kids k).kids.length + ksp)] 38
        obtain ⟨M, hM⟩ : ∃ M, M = orderL (t.kids.take k) L := ⟨_, rfl⟩
        obtain ⟨RL, hRL⟩ : ∃ RL, RL = renL M (t.kids.take k) := ⟨_, rfl⟩
        rw [← hM] at HKS HTT HOT hlk SK
        rw [← hRL] at HTT hlk SK
        clear c0' c1' S hM hRL c2
        go_wp2_with fail
        rw [← hbk]
        refine SK.genC (z := bk + 1) (by simp [hbk]) ?_
        intro w2 z4 S
        have HBK := Lib.hid (show bx + 3 ≤ bk by omega)
        clear SK hbk c0 c1
        have SD := Lib.hid S.drew
        obtain ⟨⟨y0, _⟩, y1, _⟩ := SD.out.two 4
        obtain ⟨⟨v0, _⟩, v1, _⟩ := SD.out.two 6
        have hzd : w2.drew.heap.size = w2.heap.size := rfl
        clear S
        go_region_law (first
          | (have _g := S5; refine step_app (by rfl) (.tmp 41) (.tmp 45) 32 (by rfl) treeE S5 5 rfl (x := (gK t.kids k).ren ((gK t.kids k).order M)) (q := fun b => w2.heap.size ≤ b ∧ b < w4.heap.size) (p' := fun b => bx + 3 ≤ b) ⟨ka2, sa2, rfl, S5.tree 7⟩ Try.underlying32 gi gz0 gz1 gz2 (by rfl) (by rfl) (by rfl) (by rfl) (by unfold maxLen; omega) (by omega) (by have := HBK.out; omega) (by have := HBW.out; have := HB.out; have := HBX.out; omega)
              (fun bb h1 h2 h3 => by have h4 := (HOW.out bb h1).2; simp only [fset, fsnoc, offs, offAll, Fct.box, Fct.tree, Fct.mapI, Fct.kept, and_true]; have := HB.out; have := HBX.out; omega) (fun bb h1 h2 => by have h4 : bb < w2.heap.size := (SD.out.ownlt treeE 5 rfl bb h2).2; have h5 := h1.1; omega) (fun bb h1 => by have h6 := HBK.out; rcases h1 with h1 | h1; exact h1; have h5 := h1.1; omega) ?_; intro gg cap w5 S6 hs6 hgg hat; obtain ⟨⟨u0, u1⟩, u2, u3⟩ := S6.two 4; have hl6 := S6.lt 4)
          | (go_simp; go_at_call 138; refine (SD.out.madeM 0 rfl (by simp only [fsnoc, offs, offAll, Fct.box, Fct.kept, Fct.owns, and_true]; have := HB.out; have := HBX.out; have := HBK.out; refine ⟨by omega, by omega, by omega, by omega, fun e => ?_, by omega⟩; rcases e with e | e; have h8 := (SD.out.ownlt treeE 5 rfl b e).1; omega; omega) (IH.out k hlt p w0 w2.drew b _ M HP.out HBW.out HTK.out (SD.out.pick [0]) (HLOW.out.kid hlt) HKS.out)).mono ?_; rintro e w4 ⟨ka2, sa2, rfl, hz2, S5⟩; have hz2 : w2.heap.size ≤ w4.heap.size := hz2; have hlo2 := S5.lt 4; have hlo0 := S5.lt 6; obtain ⟨⟨z0, _⟩, z1', _⟩ := S5.two 4; obtain ⟨⟨q0, _⟩, q1, _⟩ := S5.two 6))
        all_goals
          rw [hlk] at S6
          have S7 := (S6.set21 4 rfl (.slice (some ⟨gg, 0, none⟩) (k + 1) cap) (by have := HBW.out; have := HB.out; have := HBX.out; omega) (by
            have h8 := (S6.ownlt treeE 5 rfl gg rfl).1
            simp only [fset, fsnoc, offs, offAll, Fct.box, Fct.tree, Fct.mapI, Fct.kept, Fct.owns, and_true]; have := HB.out; have := HBX.out; have := HBK.out
            refine ⟨by omega, by omega, by omega, by omega, fun e => ?_, by omega, by omega⟩
            rcases e with e | e
            · have e' : gg = bx + 2 := by simpa [Value.ownBlock] using e
              omega
            · omega)).pick [0, 1, 2, 3, 4, 5]
          have S8 := Lib.hid (show St w0 (w5.setCell ⟨bx + 2, 1, none⟩ (.slice (some ⟨gg, 0, none⟩) (k + 1) cap)) [.mapI b (orderL (t.kids.take (k + 1)) L), .kept w b, .box bx #[.int .i64 t.head, .slice (some ⟨bb, off, none⟩) t.kids.length (t.kids.length + sp)] 38, .box (bx + 1) #[.int .i64 0, .slice none 0 0] 38, .box (bx + 2) #[.int .i64 t.head, .slice (some ⟨gg, 0, none⟩) (k + 1) cap] 38,
            .owns treeE (bx + 3) (fun c => bx + 3 ≤ c) (.slice (some ⟨gg, 0, none⟩) (k + 1) cap) (renL (orderL (t.kids.take (k + 1)) L) (t.kids.take (k + 1)))] by rw [HTT.out, HOT.out]; exact S7)
          clear S7 S6 S5 y0 y1 v0 v1 z0 z1' q0 q1
          go_wp2_with fail
          go_roundw
          case rel => exact ⟨k + 1, _, by omega, by go_num, by have := HBK.out; simp; omega, S8.out⟩
          case measure => simp [intOf] <;> omega
      · obtain rfl : k = t.kids.length := by omega
        rw [List.take_length, ← HO.out] at S
        have HNL := Lib.hid (renL_length (t.order L) t.kids)
        obtain ⟨ro, rsp, rfl, hrow, hml2⟩ := (S.owns treeE 5).row (fun b h => h)
        have HT := Lib.hid hrow
        have SB := Lib.hid S
        obtain ⟨⟨y0, y1⟩, y2, y3⟩ := S.two 3
        obtain ⟨⟨v0, _⟩, v1, _⟩ := S.two 4
        have hl1 := S.lt 3
        clear hrow S
        go_wp2_with fail
        refine ret_box2 (.int .i64 t.head) (.slice ro (renL (t.order L) t.kids).length ((renL (t.order L) t.kids).length + rsp)) (bx + 1) 38 (box2_set (SB.out.block 3) _ _) (fun w' q0 q1 => by simp [results, Try.results138, go_sem, q0, q1]) rfl ?_
        have hb1 := HB.out; have hx1 := HBX.out
        have SF := SB.out.set2 3 rfl (.int .i64 t.head) (.slice ro (renL (t.order L) t.kids).length ((renL (t.order L) t.kids).length + rsp)) (by omega) (by
          simp only [offs, offAll, Fct.box, Fct.mapI, Fct.kept, Fct.owns, and_true]
          refine ⟨by omega, by omega, by omega, by omega, fun e => ?_⟩
          rcases e with e | e
          · have := (SB.out.ownlt treeE 5 rfl _ e).1; omega
          · omega)
        refine ⟨_, rfl, ?_, SF.mapI 0, SF.kept 1, by simp; omega, SF.bel⟩
        rw [HRN.out]
        have h8 := TreeP.close (h := t.head) (sp := rsp) HT.out.rowP hml2
        exact ((h8.setCell (a := ⟨bx + 1, 0, none⟩) (by simp) _).setCell (a := ⟨bx + 1, 1, none⟩) (by simp) _).mono (fun b h _ => by omega)
end Go.Proofs.Ytlhnfdjidjgfgaa
