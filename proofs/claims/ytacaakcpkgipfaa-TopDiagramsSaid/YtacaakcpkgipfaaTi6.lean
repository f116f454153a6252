/-
  Walks: is a wait broken; are starts a schedule?
-/
import Derived.Test.YtacaakcpkgipfaaProg
import Derived.Test.YtacaakcpkgipfaaTi5
import Derived.RegionTactic
import Derived.BigQuiet
import Derived.Deep.DeepCutAuto
namespace Go.Proofs.Ytacaakcpkgipfaa
open Go.RowKit Go.Shelf
set_option linter.unusedVariables false
set_option maxHeartbeats 400000

def gW (ws : List Wt) (i : Nat) : Wt := ws.getD i ⟨0, 0, 0⟩
theorem gW_get {ws : List Wt} {i : Nat} (h : i < ws.length) : gW ws i = ws[i] := by simp [gW, List.getD_eq_getElem?_getD, h]
def brokenB (s : List Int) (w : Wt) : Bool := decide (gT s w.b < gT s w.a + w.by_)

set_option maxRecDepth 100000 in
theorem right19 (s : List Int) (x : Wt) (q : Nat → Prop) (bs : Nat) (so : Option Addr) (sc : Nat) (w : World) (hp : w.cell? ⟨bs, 0, none⟩ = some (.slice so s.length sc)) (hs : intE.Row q w so s) (hos : okS s) (h1 : x.a < s.length) (h2 : x.b < s.length) (h3 : -4 ≤ x.by_) (h4 : x.by_ ≤ 4) :
    Calls Try.prog 19 #[.agg #[.int .i64 x.a, .int .i64 x.b, .int .i64 x.by_], .pointer (some ⟨bs, 0, none⟩)] w fun e w' => e = .returned (.bool (brokenB s x)) ∧ Below w.heap.size w w' := by
  obtain ⟨b, off, rfl, _, c0⟩ := hs.int h1
  obtain ⟨b2, off2, he, _, c1⟩ := hs.int h2
  simp only [Option.some.injEq, Addr.mk.injEq, and_true] at he
  obtain ⟨rfl, rfl⟩ := he
  have h5 := hos x.a h1
  have h6 := hos x.b h2
  obtain ⟨U, hU⟩ : ∃ A, A = s[x.a] := ⟨_, rfl⟩
  obtain ⟨V, hV⟩ : ∃ A, A = s[x.b] := ⟨_, rfl⟩
  have HB := Lib.hid (show brokenB s x = decide (V < U + x.by_) by unfold brokenB; rw [gT_get h1, gT_get h2, ← hU, ← hV])
  rw [← hU] at c0 h5
  rw [← hV] at c1 h6
  obtain ⟨h5, h5'⟩ := h5
  obtain ⟨h6, h6'⟩ := h6
  obtain ⟨A, hA⟩ : ∃ A, A = x.a := ⟨_, rfl⟩
  obtain ⟨B, hB⟩ : ∃ B, B = x.b := ⟨_, rfl⟩
  rw [← hA] at c0 h1 ⊢
  rw [← hB] at c1 h2 ⊢
  have hai : (A : Int) < (s.length : Int) := by omega
  have hbi : (B : Int) < (s.length : Int) := by omega
  obtain ⟨bt, hbt⟩ : ∃ b, b = w.heap.size := ⟨_, rfl⟩
  have S := (St.start w).box hbt.symm #[.int .i64 (A : Int), .int .i64 (B : Int), .int .i64 x.by_] 29
  have HC := Lib.hid (And.intro hp (And.intro c0 c1))
  clear hU hV hA hB hs hos hp c0 c1
  go_enter Try.func19, Try.ntmps19
  go_wp2_with fail
  rw [← hbt]
  clear hbt
  generalize w.alloc (.cells #[.int .i64 (A : Int), .int .i64 (B : Int), .int .i64 x.by_] 29) = w1 at S ⊢
  have qa := cell_regrown (S.cell 0 0 rfl).1; have qb := cell_regrown (S.cell 0 1 rfl).1; have qc := cell_regrown (S.cell 0 2 rfl).1
  have qd := cell_regrown (Below.cellOf S.bel HC.out.1); have qe := cell_regrown (Below.cellOf S.bel HC.out.2.1); have qf := cell_regrown (Below.cellOf S.bel HC.out.2.2)
  refine wp_region_quiet_below (by kernel_rfl) (by kernel_rfl) ?_
  repeat (go_big_quiet_step (fail))
  refine wpQuiet_nil ?_
  intro _ hw'
  obtain ⟨⟨dq, osq⟩, hw''⟩ := hw'
  subst hw''
  have SB := Lib.hid (S.regrown dq osq).bel
  clear qa qb qc qd qe qf S
  go_wp2_with fail
  go_ret
  exact ⟨ret_bool HB.out.symm, SB.out⟩

theorem indexFunc32 (fn : Nat) (cap : Array Value) (eg : ∀ args w, (callFunc fn args).run Try.prog w = .ok (.enter fn args) w)
    (q : Nat → Prop) (ao : Option Addr) (ks : List Wt) (n cp : Nat) (hn0 : ks.length = n) (p : Nat → Bool) (w : World) (hn : n ≤ 9223372036854775807) (hc : waitE.Row q w ao ks)
    (hf : ∀ i w1, i < n → Below w.heap.size w w1 → Calls Try.prog fn (#[.agg #[.int .i64 (gW ks i).a, .int .i64 (gW ks i).b, .int .i64 (gW ks i).by_]] ++ cap) w1 fun e w2 => e = .returned (.bool (p i)) ∧ Below w1.heap.size w1 w2) :
    Calls Try.prog 32 #[.slice ao n cp, .func (.func fn) #[] cap] w fun e w' => e = .returned (.int .i64 (firstZ p n)) ∧ Below w.heap.size w w' := by
  have HF := Lib.hid hf
  have HC := Lib.hid hc
  clear hf hc
  go_enter Try.func32, Try.ntmps32
  go_wp2
  go_loopw [5, 8] (fun _ i wr => ∃ k : Nat, k ≤ n ∧ i = .int .i64 k ∧ (∀ j, j < k → p j = false) ∧ Below w.heap.size w wr) (fun _ i _ => n - (intOf i).toNat)
  case atStart => exact ⟨0, Nat.zero_le _, rfl, by simp, Below.refl _ _⟩
  case round =>
    obtain ⟨k, hk, rfl, hno, hbel⟩ := hrel
    have HN := Lib.hid hno
    clear hno
    by_cases hlt : k < n
    · obtain ⟨b, off, rfl, _, c1, c2, c3⟩ := (HC.out.kept hbel).wait (i := k) (by omega)
      have HG := Lib.hid (HF.out k)
      rw [gW_get (by omega)] at HG
      generalize ks[k] = x at HG c1 c2 c3
      clear hn0
      go_wp2_with fail
      refine (HG.out _ hlt hbel).mono ?_
      rintro e w1 ⟨rfl, hb1⟩
      have hbel1 := Below.step hbel hb1
      cases hp : p k with
      | true =>
        have HP := Lib.hid hp; clear hp
        go_wp2
        go_ret
        exact ⟨ret_int (firstZ_hit hlt HN.out HP.out).symm, hbel1⟩
      | false =>
        have HP := Lib.hid hp; clear hp
        go_wp2
        go_roundw
        case rel => exact ⟨k + 1, by omega, by go_num, fun j hj => (by rcases Nat.lt_succ_iff_lt_or_eq.1 hj with h | rfl; exact HN.out j h; exact HP.out), hbel1⟩
        case measure => simp [intOf] <;> omega
    · clear hn0
      go_wp2
      go_ret
      exact ⟨ret_int (firstZ_none (fun j hj => HN.out j (by omega))).symm, hbel⟩
set_option maxRecDepth 100000 in
theorem containsFunc18 (fn : Nat) (cap : Array Value) (eg : ∀ args w, (callFunc fn args).run Try.prog w = .ok (.enter fn args) w)
    (q : Nat → Prop) (ao : Option Addr) (ks : List Wt) (n cp : Nat) (hn0 : ks.length = n) (p : Nat → Bool) (w : World) (hn : n ≤ 9223372036854775807) (hc : waitE.Row q w ao ks)
    (hf : ∀ i w1, i < n → Below w.heap.size w w1 → Calls Try.prog fn (#[.agg #[.int .i64 (gW ks i).a, .int .i64 (gW ks i).b, .int .i64 (gW ks i).by_]] ++ cap) w1 fun e w2 => e = .returned (.bool (p i)) ∧ Below w1.heap.size w1 w2) :
    Calls Try.prog 18 #[.slice ao n cp, .func (.func fn) #[] cap] w fun e w' => e = .returned (.bool (anyB p n)) ∧ Below w.heap.size w w' := by
  have H := Lib.hid (indexFunc32 fn cap eg q ao ks n cp hn0 p w hn hc hf)
  clear hc hf hn0
  go_enter Try.func18, Try.ntmps18
  go_wp2_with fail
  refine H.out.mono ?_
  rintro e w1 ⟨rfl, hb1⟩
  go_wp2
  go_ret
  refine ⟨ret_bool ?_, hb1⟩
  rw [Bool.eq_iff_iff]
  simp only [decide_eq_true_eq]
  exact firstZ_nonneg
end Go.Proofs.Ytacaakcpkgipfaa
