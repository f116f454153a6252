/-
  umpiragelaw7.ClaimSays returns true for every input (where the arguments are together of bulk at most 1048576), and each argument reads behind the call as it read before; the tied card.
-/
import Derived.Test.YtidgnbdlfngeaaaGreatDoorCards
import Derived.Test.YtidgnbdlfngeaaaGreatDoorTie
import Derived.Test.YtidgnbdlfngeaaaGreatDoorCs3
import Derived.Test.YtidgnbdlfngeaaaGreatDoorO6
import Derived.WalkKit
import Derived.ProofKit
import Derived.OpenShut
import Derived.ChangeMaps5
import Derived.Below
import Derived.Carry
import Derived.Lay
import Derived.Shelf.Vars
import Derived.Stop.LaidErr
import Derived.MakeChecks
import Derived.Deep.DeepHandedRow
namespace Go.Proofs.YtidgnbdlfngeaaaGreatDoor.csg
open Go.ChangeShapes Go.WideShapes Go.ChangeAt Go.RowKit
set_option linter.unusedVariables false

theorem own : ownKnob Tryz.prog.godebug = none := by kernel_rfl
theorem laidOut : laidOutB Tryz.prog = true := by kernel_rfl
theorem gSyn : Tryz.prog.globalNamed "strconv.ErrSyntax" = some 4 := by kernel_rfl
theorem gRan : Tryz.prog.globalNamed "strconv.ErrRange" = some 5 := by kernel_rfl
theorem gSynT : (Tryz.prog.globals[4]?).map (·.type) = some 60 := by kernel_rfl
theorem gRanT : (Tryz.prog.globals[5]?).map (·.type) = some 60 := by kernel_rfl

/-- An interface variable that reads as an interface holds one. -/
theorem iface_of {P : Program} {w : World} {fuel : Nat} {t : TypeId} {ms : Array (String × TypeId)} {cs : List Value} {nm : String} {d : DataW Unit} {p : List MemPlace} (ht : P.underlying t = some (.interface ms))
    (h : DataW.trod (fun _ => ()) P w 0 (fun _ => true) false fuel t cs = some (.iface nm d, p)) : ∃ u v, cs = [.iface u v] := by
  cases fuel with
  | zero => simp [DataW.trod] at h
  | succ n =>
    unfold DataW.trod at h
    rw [ht] at h
    split at h <;> first | exact ⟨_, _, rfl⟩ | (simp at h; done) | (rename_i h1; cases h1; done) | (rename_i h1 _; cases h1; done)

theorem errs_of {W : World} {a : String × DataW Unit} (h : laidMet Tryz.prog (("strconv.ErrRange", Rows.laid_strconv_ErrRange) :: ("strconv.ErrSyntax", Rows.laid_strconv_ErrSyntax) :: [a]) W) :
    (∃ u v, W.cell? ⟨4, 0, none⟩ = some (.iface u v)) ∧ ∃ u v, W.cell? ⟨5, 0, none⟩ = some (.iface u v) := by
  obtain ⟨ps, ⟨g1, t1, cs1, f1, p1, q1, hg1, ht1, hv1, hd1, ⟨g2, t2, cs2, f2, p2, q2, hg2, ht2, hv2, hd2, _, _⟩, _⟩, _⟩ := h
  obtain rfl := Option.some.inj (gRan.symm.trans hg1)
  obtain rfl := Option.some.inj (gRanT.symm.trans ht1)
  obtain rfl := Option.some.inj (gSyn.symm.trans hg2)
  obtain rfl := Option.some.inj (gSynT.symm.trans ht2)
  obtain ⟨u1, v1, e1⟩ := iface_of Tryz.underlying60 hd1
  obtain ⟨u2, v2, e2⟩ := iface_of Tryz.underlying60 hd2
  refine ⟨⟨u2, v2, ?_⟩, u1, v1, ?_⟩
  · have := World.var?_cell gSyn hv2 0
    obtain ⟨l⟩ := cs2
    simp only at e2
    subst e2
    simpa using this
  · have := World.var?_cell gRan hv1 0
    obtain ⟨l⟩ := cs1
    simp only at e1
    subst e1
    simpa using this

theorem vars_of {W : World} (h : laidMetH Tryz.prog Rows.claimSaysUptoRow.laid W) (hs : W.ShapedOpen Tryz.prog) : GV W := by
  rw [MakeChecks.laidMetH_plain _ _ _ (by kernel_rfl)] at h
  obtain ⟨⟨u4, v4, h4⟩, u5, v5, h5⟩ := errs_of (h.tail.tail.tail.tail)
  exact ⟨cell_of_shapedOpen_int (zero := #[.int .i64 0]) (t := 3) hs (of_decide_eq_true (by kernel_rfl)) (by kernel_rfl) rfl (by kernel_rfl) (by kernel_rfl) Tryz.underlying3,
    ⟨_, h4, .inr ⟨_, _, rfl⟩⟩, _, h5, .inr ⟨_, _, rfl⟩⟩

theorem laid_met (os : Os) (args : Array Value) : laidMet Tryz.prog Rows.claimSaysUptoRow.laid ((World.laidAll Tryz.prog os Rows.claimSaysUptoRow.laid).forCall (fun _ _ => 0) ⟨#[], args, []⟩).memory :=
  laidMet_laidAll args (by kernel_rfl) (by kernel_rfl)

theorem len_ok {s : ByteArray} (h : s.size ≤ maxLen) : s.data.toList.length ≤ 9223372036854775807 := by
  rw [Array.length_toList]; exact h
set_option maxRecDepth 100000 in
theorem lifted (os : Os) (started : os.Started) (H : Type) (enc : TypeId × Value → H) (F : Stop.Interp) :
    ReturnsInHanded {} Tryz.checked os 3 .any ((Rows.OpenSpec.upto Rows.claimSaysSpec).preRow enc Tryz.prog Tryz.f3 Rows.claimSaysUptoRow.domain false Rows.claimSaysUptoRow.laid) (((Rows.OpenSpec.upto Rows.claimSaysSpec).at F).post enc Tryz.prog Tryz.f3 false true false false) := by
  obtain ⟨places, hx⟩ : ∃ places, DataW.whole enc Tryz.prog ((World.laidAll Tryz.prog os Rows.claimSaysUptoRow.laid).forCall (fun _ _ => 0) ⟨#[], #[.agg #[.slice none 0 0, .slice none 0 0], .string ByteArray.empty], []⟩).memory Tryz.f3.params.toList Rows.claimSaysSpec.vars false #[Value.agg #[.slice none 0 0, .slice none 0 0], .string ByteArray.empty].toList 8 = some ([.agg [.nil, .nil], .lit (.string [])], [], places) := ⟨[], by kernel_rfl⟩
  refine returnsInHanded_of_row (C := Tryz.checked) (s := Rows.OpenSpec.upto Rows.claimSaysSpec) own started (by kernel_rfl) Tryz.func3
    (witness_row_at (enc := enc) (C := Tryz.checked) false (World.laidAll Tryz.prog os Rows.claimSaysUptoRow.laid) #[.agg #[.slice none 0 0, .slice none 0 0], .string ByteArray.empty] (World.laidAll_os _ _ _) (by kernel_rfl) (by kernel_rfl) (by kernel_rfl)
      (OpenSpec.preRow_of_cond 8 hx (by kernel_rfl) (fun k hk => by cases hk; kernel_rfl) (by kernel_rfl) (laid_met os _))) ?_
  intro W base args ds gs before hval0 hW _ hk _ hL hsh _
  have hval : ∀ (j : Nat) t v, Tryz.f3.params[j]? = some t → args[j]? = some v → Value.okWide Tryz.prog W .any base t v := hval0
  have hW' := hW
  obtain ⟨p, q, hA0, hV, rfl, hfz, hnd⟩ := hW
  have hA : DataW.TrodAll enc Tryz.prog W 0 (fun _ => true) true Tryz.f3.params.toList args.toList ds p := hA0
  rw [Tryz.params3] at hA hval
  obtain ⟨v0, vs0, d0, ds0, p0, q0, hargs, rfl, rfl, h0, r0⟩ := trodAll_cons hA
  obtain ⟨v1, vs1, d1, ds1, p1, q1, rfl, rfl, rfl, h1, r1⟩ := trodAll_cons r0
  obtain ⟨rfl, rfl, rfl⟩ := trodAll_nil r1
  obtain rfl : args = #[v0, v1] := by cases args; simp_all
  obtain ⟨rfl, rfl⟩ := trodVars_none hV
  have hkk := of_decide_eq_true (hk Rows.uptoSmall rfl)
  simp only [List.append_nil, Rows.uptoBulkAll] at hkk
  have k0 := h0
  have lt0 : ∀ x ∈ p0, x.block < W.heap.size := by obtain ⟨m, hm⟩ := k0; exact DataW.trod_lt m _ _ _ hm
  obtain ⟨ao0, ar0, ca0, co0, cs0, cp0, rfl, ga0, gc0, la0, lc0, s0⟩ := loreB_arg (okWide_struct Tryz.underlying25 (hval 0 25 v0 rfl rfl)) h0
  have k1 := h1
  obtain ⟨sx, rfl, rfl, rfl, ls1⟩ := ChangeMaps.open_string Tryz.underlying9 (hval 1 9 v1 rfl rfl) h1
  clear hA0 hval0
  have hcl := claims_length cs0
  refine (claimSays3 ar0 cs0 sx.data.toList _ _ ao0 co0 ca0 (cs0.length + cp0) W ga0 gc0 (fun c h => h) (fun c h => h) (by omega) (by omega) (fun i c hc => by have := (claims_small hc).1; omega) (fun i c hc j t ht => by have := (claims_small hc).2 j t ht; omega) (len_ok ls1) (vars_of hL hsh)).mono fun e W' ⟨he, bel⟩ => ?_
  subst he
  exact ⟨_, rfl, _, _, _, [], _, [], hW', trodAll_mk1 (shut_bool Tryz.underlying4 _),
    (trodAll_cons_mk (Below.trod laidOut (by kernel_rfl) (of_decide_eq_true (by kernel_rfl)) k0 bel lt0) (trodAll_cons_mk (Below.trod laidOut (by kernel_rfl) (of_decide_eq_true (by kernel_rfl)) k1 bel (fun x hx => by cases hx)) trodAll_mk0)), rfl, bel.frame _, fun h => by cases h⟩

theorem said : Rows.ClaimSaysUptoSaid :=
  OpenClaim.holds_of_cond 3 Tryz.f3 rfl rfl rfl rfl rfl rfl rfl ⟨rfl, rfl, rfl, rfl, rfl⟩ rfl rfl rfl rfl rfl (by kernel_rfl) Tryz.func3 (by kernel_rfl)
    (of_decide_eq_true (by kernel_rfl)) (by unfold Func.isWrapper; first | (rw [if_pos (by decide +kernel)]; kernel_rfl) | (rw [if_neg (by decide +kernel)]; exact ⟨rfl, rfl⟩))
    (fun os started H enc _ F => by rw [OpenClaim.pre_eq_preRow]; exact lifted os started H enc F)

theorem plain (f : FuncId) (fn : Func) (hf : Tryz.pinned.checked.prog.funcNamed "umpirage/umpiragelaw7.ClaimSays" = some f) (hfn : Tryz.pinned.checked.prog.funcs[f]? = some fn) :
    true = Tryz.pinned.checked.prog.looks [] ∧ ∀ (j : Nat) t, fn.params[j]? = some t → Tryz.pinned.checked.prog.wantsStandIn t = false := by
  obtain rfl : f = 3 := Option.some.inj ((show Tryz.prog.funcNamed "umpirage/umpiragelaw7.ClaimSays" = some 3 by kernel_rfl).symm.trans hf) |>.symm
  obtain rfl : fn = Tryz.f3 := (Option.some.inj (Tryz.func3.symm.trans hfn)).symm
  refine ⟨by kernel_rfl, fun j t ht => ?_⟩
  rw [Tryz.params3] at ht
  have hm : t = 25 ∨ t = 9 := by simpa using Array.mem_of_getElem? ht
  rcases hm with rfl | rfl
  · exact (show Tryz.prog.wantsStandIn 25 = false by kernel_rfl)
  · exact (show Tryz.prog.wantsStandIn 9 = false by kernel_rfl)

theorem proved : Rows.ClaimSaysUptoCardSaid :=
  Claim7.holds_tied_plain_at .later [] _ _ _ _ said (fun _ h => by cases h) (by kernel_rfl) (fun _ h => by cases h) claimSaysUpto_row_tie rfl ⟨rfl, rfl⟩ (by kernel_rfl) rfl plain (by kernel_rfl)
end Go.Proofs.YtidgnbdlfngeaaaGreatDoor.csg
