/-
  umpiragelaw7.ClaimNamed returns true for every input, and each argument reads behind the call as it read before; the tied card.
-/
import Derived.Test.YtidgnbdlfngeaaaDoorCards
import Derived.Test.YtidgnbdlfngeaaaDoorTie
import Derived.Test.YtidgnbdlfngeaaaDoorCn4
import Derived.Test.YtidgnbdlfngeaaaDoorXo
import Derived.WalkKit
import Derived.ProofKit
import Derived.OpenShut
import Derived.ChangeMaps5
import Derived.Below
import Derived.Carry
import Derived.Lay
import Derived.Shelf.Vars
import Derived.Stop.LaidErr
import Derived.MakeChecks
import Derived.Deep.DeepHandedRow
namespace Go.Proofs.YtidgnbdlfngeaaaDoor.cng
open Go.ChangeShapes Go.WideShapes Go.ChangeAt Go.RowKit
set_option linter.unusedVariables false

theorem own : ownKnob Tryd.prog.godebug = none := by kernel_rfl
theorem laidOut : laidOutB Tryd.prog = true := by kernel_rfl
theorem gSyn : Tryd.prog.globalNamed "strconv.ErrSyntax" = some 4 := by kernel_rfl
theorem gRan : Tryd.prog.globalNamed "strconv.ErrRange" = some 5 := by kernel_rfl
theorem gSynT : (Tryd.prog.globals[4]?).map (·.type) = some 57 := by kernel_rfl
theorem gRanT : (Tryd.prog.globals[5]?).map (·.type) = some 57 := by kernel_rfl

/-- An interface variable that reads as an interface holds one. -/
theorem iface_of {P : Program} {w : World} {fuel : Nat} {t : TypeId} {ms : Array (String × TypeId)} {cs : List Value} {nm : String} {d : DataW Unit} {p : List MemPlace} (ht : P.underlying t = some (.interface ms))
    (h : DataW.trod (fun _ => ()) P w 0 (fun _ => true) false fuel t cs = some (.iface nm d, p)) : ∃ u v, cs = [.iface u v] := by
  cases fuel with
  | zero => simp [DataW.trod] at h
  | succ n =>
    unfold DataW.trod at h
    rw [ht] at h
    split at h <;> first | exact ⟨_, _, rfl⟩ | (simp at h; done) | (rename_i h1; cases h1; done) | (rename_i h1 _; cases h1; done)

theorem errs_of {W : World} {a : String × DataW Unit} (h : laidMet Tryd.prog (("strconv.ErrRange", Rows.laid_strconv_ErrRange) :: ("strconv.ErrSyntax", Rows.laid_strconv_ErrSyntax) :: [a]) W) :
    (∃ u v, W.cell? ⟨4, 0, none⟩ = some (.iface u v)) ∧ ∃ u v, W.cell? ⟨5, 0, none⟩ = some (.iface u v) := by
  obtain ⟨ps, ⟨g1, t1, cs1, f1, p1, q1, hg1, ht1, hv1, hd1, ⟨g2, t2, cs2, f2, p2, q2, hg2, ht2, hv2, hd2, _, _⟩, _⟩, _⟩ := h
  obtain rfl := Option.some.inj (gRan.symm.trans hg1)
  obtain rfl := Option.some.inj (gRanT.symm.trans ht1)
  obtain rfl := Option.some.inj (gSyn.symm.trans hg2)
  obtain rfl := Option.some.inj (gSynT.symm.trans ht2)
  obtain ⟨u1, v1, e1⟩ := iface_of Tryd.underlying57 hd1
  obtain ⟨u2, v2, e2⟩ := iface_of Tryd.underlying57 hd2
  refine ⟨⟨u2, v2, ?_⟩, u1, v1, ?_⟩
  · have := World.var?_cell gSyn hv2 0
    obtain ⟨l⟩ := cs2
    simp only at e2
    subst e2
    simpa using this
  · have := World.var?_cell gRan hv1 0
    obtain ⟨l⟩ := cs1
    simp only at e1
    subst e1
    simpa using this

theorem vars_of {W : World} (h : laidMetH Tryd.prog Rows.claimNamedRow.laid W) (hs : W.ShapedOpen Tryd.prog) : GV W := by
  rw [MakeChecks.laidMetH_plain _ _ _ (by kernel_rfl)] at h
  obtain ⟨⟨u4, v4, h4⟩, u5, v5, h5⟩ := errs_of (h.tail.tail.tail.tail)
  exact ⟨cell_of_shapedOpen_int (zero := #[.int .i64 0]) (t := 3) hs (of_decide_eq_true (by kernel_rfl)) (by kernel_rfl) rfl (by kernel_rfl) (by kernel_rfl) Tryd.underlying3,
    ⟨_, h4, .inr ⟨_, _, rfl⟩⟩, _, h5, .inr ⟨_, _, rfl⟩⟩

theorem laid_met (os : Os) (args : Array Value) : laidMet Tryd.prog Rows.claimNamedRow.laid ((World.laidAll Tryd.prog os Rows.claimNamedRow.laid).forCall (fun _ _ => 0) ⟨#[], args, []⟩).memory :=
  laidMet_laidAll args (by kernel_rfl) (by kernel_rfl)

set_option maxRecDepth 100000 in
theorem lifted (os : Os) (started : os.Started) (H : Type) (enc : TypeId × Value → H) (F : Stop.Interp) :
    ReturnsInHanded {} Tryd.checked os 4 .any ((OpenSpec.ofChange Rows.claimNamedSpec).preRow enc Tryd.prog Tryd.f4 Rows.claimNamedRow.domain false Rows.claimNamedRow.laid) (((OpenSpec.ofChange Rows.claimNamedSpec).at F).post enc Tryd.prog Tryd.f4 false true false false) := by
  obtain ⟨places, hx⟩ : ∃ places, DataW.whole enc Tryd.prog ((World.laidAll Tryd.prog os Rows.claimNamedRow.laid).forCall (fun _ _ => 0) ⟨#[], #[.agg #[.slice none 0 0], .int .i64 0], []⟩).memory Tryd.f4.params.toList Rows.claimNamedSpec.vars false #[Value.agg #[.slice none 0 0], .int .i64 0].toList 8 = some ([.agg [.nil], .lit (.int .i64 0)], [], places) := ⟨[], by kernel_rfl⟩
  refine returnsInHanded_of_row (C := Tryd.checked) (s := OpenSpec.ofChange Rows.claimNamedSpec) own started (by kernel_rfl) Tryd.func4
    (witness_row_at (enc := enc) (C := Tryd.checked) false (World.laidAll Tryd.prog os Rows.claimNamedRow.laid) #[.agg #[.slice none 0 0], .int .i64 0] (World.laidAll_os _ _ _) (by kernel_rfl) (by kernel_rfl) (by kernel_rfl)
      (OpenSpec.preRow_of_cond 8 hx (by kernel_rfl) (fun k hk => by cases hk) (by kernel_rfl) (laid_met os _))) ?_
  intro W base args ds gs before hval0 hW _ _ _ hL hsh _
  have hval : ∀ (j : Nat) t v, Tryd.f4.params[j]? = some t → args[j]? = some v → Value.okWide Tryd.prog W .any base t v := hval0
  have hW' := hW
  obtain ⟨p, q, hA0, hV, rfl, hfz, hnd⟩ := hW
  have hA : DataW.TrodAll enc Tryd.prog W 0 (fun _ => true) true Tryd.f4.params.toList args.toList ds p := hA0
  rw [Tryd.params4] at hA hval
  obtain ⟨v0, vs0, d0, ds0, p0, q0, hargs, rfl, rfl, h0, r0⟩ := trodAll_cons hA
  obtain ⟨v1, vs1, d1, ds1, p1, q1, rfl, rfl, rfl, h1, r1⟩ := trodAll_cons r0
  obtain ⟨rfl, rfl, rfl⟩ := trodAll_nil r1
  obtain rfl : args = #[v0, v1] := by cases args; simp_all
  obtain ⟨rfl, rfl⟩ := trodVars_none hV
  have k0 := h0
  have lt0 : ∀ x ∈ p0, x.block < W.heap.size := by obtain ⟨m, hm⟩ := k0; exact DataW.trod_lt m _ _ _ hm
  obtain ⟨ao0, fs0, sp0, rfl, g0, l0, s0⟩ := claim_arg (okWide_struct Tryd.underlying37 (hval 0 37 v0 rfl rfl)) h0
  have k1 := h1
  obtain ⟨sx, rfl, rfl, rfl, ls1⟩ := open_int Tryd.underlying3 (hval 1 3 v1 rfl rfl) h1
  clear hA0 hval0
  refine (named4 fs0 sx _ ao0 sp0 W g0 (fun c h => h) l0 (vars_of hL hsh)).mono fun e W' ⟨he, bel⟩ => ?_
  subst he
  exact ⟨_, rfl, _, _, _, [], _, [], hW', trodAll_mk1 (shut_bool Tryd.underlying4 _),
    (trodAll_cons_mk (Below.trod laidOut (by kernel_rfl) (of_decide_eq_true (by kernel_rfl)) k0 bel lt0) (trodAll_cons_mk (Below.trod laidOut (by kernel_rfl) (of_decide_eq_true (by kernel_rfl)) k1 bel (fun x hx => by cases hx)) trodAll_mk0)), rfl, bel.frame _, fun h => by cases h⟩

theorem said : Rows.ClaimNamedSaid :=
  OpenClaim.holds_of_cond 4 Tryd.f4 rfl rfl rfl rfl rfl rfl rfl ⟨rfl, rfl, rfl, rfl, rfl⟩ rfl rfl rfl rfl rfl (by kernel_rfl) Tryd.func4 (by kernel_rfl)
    (of_decide_eq_true (by kernel_rfl)) (by unfold Func.isWrapper; first | (rw [if_pos (by decide +kernel)]; kernel_rfl) | (rw [if_neg (by decide +kernel)]; exact ⟨rfl, rfl⟩))
    (fun os started H enc _ F => by rw [OpenClaim.pre_eq_preRow]; exact lifted os started H enc F)

theorem plain (f : FuncId) (fn : Func) (hf : Tryd.pinned.checked.prog.funcNamed "umpirage/umpiragelaw7.ClaimNamed" = some f) (hfn : Tryd.pinned.checked.prog.funcs[f]? = some fn) :
    true = Tryd.pinned.checked.prog.looks [] ∧ ∀ (j : Nat) t, fn.params[j]? = some t → Tryd.pinned.checked.prog.wantsStandIn t = false := by
  obtain rfl : f = 4 := Option.some.inj ((show Tryd.prog.funcNamed "umpirage/umpiragelaw7.ClaimNamed" = some 4 by kernel_rfl).symm.trans hf) |>.symm
  obtain rfl : fn = Tryd.f4 := (Option.some.inj (Tryd.func4.symm.trans hfn)).symm
  refine ⟨by kernel_rfl, fun j t ht => ?_⟩
  rw [Tryd.params4] at ht
  have hm : t = 37 ∨ t = 3 := by simpa using Array.mem_of_getElem? ht
  rcases hm with rfl | rfl
  · exact (show Tryd.prog.wantsStandIn 37 = false by kernel_rfl)
  · exact (show Tryd.prog.wantsStandIn 3 = false by kernel_rfl)

theorem proved : Rows.ClaimNamedCardSaid :=
  Claim7.holds_tied_plain_at .later [] _ _ _ _ said (fun _ h => by cases h) (by kernel_rfl) (fun _ h => by cases h) claimNamed_row_tie rfl ⟨rfl, rfl⟩ (by kernel_rfl) rfl plain (by kernel_rfl)
end Go.Proofs.YtidgnbdlfngeaaaDoor.cng
