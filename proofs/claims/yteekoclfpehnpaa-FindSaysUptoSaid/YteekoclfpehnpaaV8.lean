/-
  Walks: table.Wide.
-/
import Derived.Test.YteekoclfpehnpaaProg
import Derived.Test.YteekoclfpehnpaaV7
import Derived.RegionTactic
import Derived.Lib.QuietBelow
import Derived.BigQuiet
namespace Go.Proofs.Yteekoclfpehnpaa
open Go.RowKit Go.Shelf
set_option linter.unusedVariables false
set_option maxHeartbeats 400000

/-- of a claim the number of its variables -/
def varsC (fs : List Fc) : Nat := (mostL (treesF fs)).toNat
theorem varsC_cast {fs : List Fc} : ((varsC fs : Nat) : Int) = mostL (treesF fs) := by
  have := mostL_nonneg (treesF fs)
  unfold varsC; omega
def wideB (s : Nat) (fs : List Fc) : Bool := decide ((4096 : Int) < (powN s 4096 (varsC fs) 1 : Nat))

set_option maxRecDepth 100000 in
set_option maxHeartbeats 4000000 in
theorem wide111 (s : Nat) (fs : List Fc) (p : Nat → Prop) (co : Option Addr) (sp b : Nat) (w : World) (hs : s ≤ 4) (hc : w.cell? ⟨b, 0, none⟩ = some (.int .i64 s)) (h : factE.Row p w co fs) (hn : fs.length ≤ 6) (hok : ∀ t ∈ treesF fs, (treeF t).1 = 0) :
    Calls Try.prog 111 #[.agg #[.slice co fs.length (fs.length + sp)], .pointer (some ⟨b, 0, none⟩)] w fun e w' => e = .returned (.bool (wideB s fs)) ∧ Below w.heap.size w w' := by
  have HR := Lib.hid h; have HOK := Lib.hid hok
  obtain ⟨bx, hbx⟩ : ∃ b, b = w.heap.size := ⟨_, rfl⟩
  have S1 := ((St.start w).add (.cellAt b 0 (.int .i64 s)) hc).box hbx.symm #[.slice co fs.length (fs.length + sp)] 24
  have hv := mostL_bound hok
  rw [← varsC_cast] at hv
  clear h hok hc
  go_enter Try.func111, Try.ntmps111
  go_wp2_with fail
  rw [← hbx]
  refine S1.genC (z := 0) (by omega) ?_
  intro w1 z1 S
  clear S1 hbx
  have x0 := S.cellAt 0
  obtain ⟨y0, _⟩ := S.one 1
  obtain ⟨n, hnn⟩ : ∃ n, n = varsC fs := ⟨_, rfl⟩
  have CA := Lib.hid (fun d os => Calls.regrown_of (max112 fs p co sp (Go.Sort.grow (redrawn w1 d) os) (HR.out.kept (S.regrown d os).bel) hn HOK.out))
  rw [← varsC_cast, ← hnn] at CA
  have CB := Lib.hid (fun d os => Calls.regrown_of ((power80 s n 4096 (Go.Sort.grow (redrawn w1 d) os) (by omega) (by omega) (by omega)).mono (fun e w' ⟨h1, h2⟩ => ⟨h1, by rw [h2]; exact Below.refl _ _⟩)))
  obtain ⟨PW, hPW⟩ : ∃ PW, PW = powN s 4096 n 1 := ⟨_, rfl⟩
  rw [← hPW] at CB
  have HW := Lib.hid (show wideB s fs = decide ((4096 : Int) < (PW : Nat)) by rw [hPW, hnn]; rfl)
  clear hPW hnn
  have r0 := cell_regrown x0; have r1 := cell_regrown y0
  clear x0 y0
  refine wp_region_quiet_below (by kernel_rfl) (by kernel_rfl) ?_
  repeat (go_big_quiet_step (first | exact CA.out _ _ | exact CB.out _ _))
  refine wpQuiet_nil ?_
  intro _ hw'
  obtain ⟨⟨dq, osq⟩, hw''⟩ := hw'
  subst hw''
  have SE := Lib.hid (S.regrown dq osq).bel
  clear r0 r1 CA CB S
  go_wp2_with fail
  go_ret
  exact ⟨ret_bool HW.out.symm, SE.out⟩

set_option maxRecDepth 100000 in
set_option maxHeartbeats 4000000 in
theorem wide77 (ar : List Int) (cs : List (List Fc)) (s : Nat) (p q : Nat → Prop) (ao co : Option Addr) (ca cc : Nat) (w : World) (hs : s ≤ 4) (h : claimE.Row p w co cs) (hn : cs.length ≤ maxLen) (hok : ∀ c ∈ cs, codeF ar c = 0) :
    Calls Try.prog 77 #[.agg #[.slice ao ar.length ca, .slice co cs.length cc], .int .i64 s] w fun e w' => e = .returned (.int .i64 (idxP (wideB s) cs)) ∧ Below w.heap.size w w' := by
  have HR := Lib.hid h; have HOK := Lib.hid hok; have HN := Lib.hid hn
  obtain ⟨bx, hbx⟩ : ∃ b, b = w.heap.size := ⟨_, rfl⟩
  have S1 := ((St.start w).box hbx.symm #[.slice ao ar.length ca, .slice co cs.length cc] 29).box (b := bx + 1) (by simp [hbx]) #[.int .i64 s] 3
  clear h hok hn
  go_enter Try.func77, Try.ntmps77
  go_wp2_with fail
  rw [← hbx]
  refine S1.gen (z := 0) (by omega) ?_
  intro w1 z1 S
  clear S1 hbx
  refine (S.quiet (idxC 111 #[.pointer (some ⟨bx + 1, 0, none⟩)] (enters_of Try.func111 (by kernel_rfl) rfl) p co cs cc (wideB s) w1 HN.out (HR.out.kept S.bel) (fun i x k sp w2 hx hb hr hl => by
    have h0 := codeF_zero.1 (HOK.out x (List.mem_of_getElem? hx))
    exact wide111 s x p k sp (bx + 1) w2 hs (Below.cellOf hb (S.one 1).1) hr h0.1 (fun t ht => (h0.2 t ht).1)))).mono ?_
  rintro e w2 ⟨rfl, z2, S2⟩
  have SE := Lib.hid S2.bel
  clear S S2
  go_wp2_with fail
  go_ret
  exact ⟨rfl, SE.out⟩
end Go.Proofs.Yteekoclfpehnpaa
