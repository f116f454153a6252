/-
  Walks: Do, Why.
-/
import Derived.Test.YtcckgfgobakphabProg
import Derived.Test.YtcckgfgobakphabBase
import Derived.Test.YtcckgfgobakphabCmath
import Derived.Test.YtcckgfgobakphabW11
import Derived.Deep.RegionLaw
import Derived.RegionTactic
namespace Go.Proofs.Ytcckgfgobakphab
open Go.RowKit Go.Shelf
set_option linter.unusedVariables false
set_option maxHeartbeats 400000

theorem box4_set {w : World} {b : Nat} {x y z u : Value} {T : TypeId} (h : w.heap[b]? = some (.cells #[x, y, z, u] T (0, 0))) (p q r s : Value) :
    ((((w.setCell ⟨b, 0, none⟩ p).setCell ⟨b, 1, none⟩ q).setCell ⟨b, 2, none⟩ r).setCell ⟨b, 3, none⟩ s).heap[b]? = some (.cells #[p, q, r, s] T (0, 0)) := by
  simp [World.setCell, Array.getElem?_modify, h]

/-- a function's end whose two results lie in blocks of four and two cells -/
theorem ret_box42 {P : Program} {fn : Func} {R : Ending → World → Prop} {a : Act} {w : World} (x y z u : Value) (p q : Value) (b c : Nat) (T T' : TypeId)
    (hb : w.heap[b]? = some (.cells #[x, y, z, u] T (0, 0))) (hc : w.heap[c]? = some (.cells #[p, q] T' (0, 0)))
    (hres : ∀ w' : World, w'.cell? ⟨b, 0, none⟩ = some x → w'.cell? ⟨b, 1, none⟩ = some y → w'.cell? ⟨b, 2, none⟩ = some z → w'.cell? ⟨b, 3, none⟩ = some u →
      w'.cell? ⟨c, 0, none⟩ = some p → w'.cell? ⟨c, 1, none⟩ = some q → (results fn a.tmps).run P w' = .ok (.tuple #[.agg #[x, y, z, u], .agg #[p, q]]) w') (hd : a.defers = [])
    (hR : R (.returned (.tuple #[.agg #[x, y, z, u], .agg #[p, q]])) w) : bodyPost P fn R .ret a w :=
  bodyPost_ret (hres w (box4 hb).1.1 (box4 hb).2.1.1 (box4 hb).2.2.1.1 (box4 hb).2.2.2.1 (box2 hc).1.1 (box2 hc).2.1) hd hR

theorem NatsAt.nil (w : World) : NatsAt w (.slice none 0 0) [] := ⟨none, 0, rfl, fun j hj => by simp at hj⟩

structure Res where
  state : Int
  cls : List Nat
  why : List Nat
  apart : Int

def hitP (c : List Nat) (aps : List (Int × Int)) (i : Nat) : Bool := gN c (gP aps i).1.toNat == gN c (gP aps i).2.toNat
noncomputable def doR (ts : List Tm) (ps aps : List (Int × Int)) : Res :=
  if (checkF ts [ps, aps]).1 ≠ 0 then ⟨0, [], [], 0⟩ else
    match firstI (hitP (classes ts ps) aps) aps.length with
    | some i => ⟨2, [], whyL ts ps (gP aps i).1.toNat (gP aps i).2.toNat, i⟩
    | none => ⟨1, classes ts ps, [], 0⟩

theorem firstI_none' {p : Nat → Bool} : ∀ {n : Nat}, firstI p n = none → ∀ j, j < n → p j = false
  | 0, _, j, hj => by omega
  | n + 1, h, j, hj => by
    simp only [firstI] at h
    cases hf : firstI p n with
    | some i => rw [hf] at h; cases h
    | none =>
      rw [hf] at h
      by_cases e : j = n
      · subst e
        cases hp : p j with
        | false => rfl
        | true => rw [hp] at h; simp at h
      · exact firstI_none' hf j (by omega)
theorem firstI_some' {p : Nat → Bool} {k : Nat} : ∀ {n : Nat}, firstI p n = some k → k < n ∧ p k = true ∧ ∀ i, i < k → p i = false
  | 0, h => by cases h
  | n + 1, h => by
    simp only [firstI] at h
    cases hf : firstI p n with
    | some i =>
      rw [hf] at h
      simp only [Option.some.injEq] at h
      subst h
      have := firstI_some' hf
      exact ⟨by omega, this.2⟩
    | none =>
      rw [hf] at h
      simp only at h
      split at h
      · rename_i hp
        simp only [Option.some.injEq] at h
        subst h
        exact ⟨by omega, hp, firstI_none' hf⟩
      · cases h

/-- what a check that found nothing says -/
theorem listsF_zero {n : Nat} : ∀ {ls : List (List (Int × Int))} {a : Nat}, (listsF n ls a).1 = 0 → ∀ l ∈ ls, l.length ≤ 120 ∧ ∀ j, j < l.length → pBad n (gP l j) = false
  | [], _, _, l, hl => by cases hl
  | x :: r, a, h, l, hl => by
    simp only [listsF] at h
    split at h
    · simp at h
    · rename_i hle
      split at h
      · simp at h
      · rename_i hnone
        rcases List.mem_cons.1 hl with rfl | hl
        · exact ⟨by omega, firstI_none' hnone⟩
        · exact listsF_zero h l hl

theorem pairsIn_of {n : Nat} {l : List (Int × Int)} (h : ∀ j, j < l.length → pBad n (gP l j) = false) : pairsIn n l := by
  intro j hj
  have := h j hj
  simp only [pBad, Bool.or_eq_false_iff, Bool.not_eq_false', inN, decide_eq_true_eq] at this
  omega

theorem termsF_zero {ts : List Tm} (h : (termsF ts).1 = 0) : ts.length ≤ 60 ∧ kidsIn ts := by
  unfold termsF at h
  split at h
  · simp at h
  · rename_i h60
    split at h
    · rename_i hnone
      refine ⟨by omega, fun j hj => ?_⟩
      have := firstI_none' hnone j hj
      simp only [tBad, Bool.or_eq_false_iff, Bool.not_eq_false', decide_eq_false_iff_not, okSoFar, Bool.and_eq_true, kidsOk, allB_iff, kidOk, decide_eq_true_eq] at this
      exact ⟨by omega, fun i hi => by have := this.2.2 i hi; omega⟩
    · simp only at h; split at h <;> omega

theorem checkF_zero {ts : List Tm} {ls : List (List (Int × Int))} (h : (checkF ts ls).1 = 0) : ts.length ≤ 60 ∧ kidsIn ts ∧ ∀ l ∈ ls, l.length ≤ 120 ∧ pairsIn ts.length l := by
  unfold checkF at h
  split at h
  · rename_i h0
    obtain ⟨h1, h2⟩ := termsF_zero h0
    exact ⟨h1, h2, fun l hl => ⟨(listsF_zero h l hl).1, pairsIn_of (listsF_zero h l hl).2⟩⟩
  · rename_i h0; exact absurd h h0

theorem listsF_zero' {n : Nat} : ∀ {ls : List (List (Int × Int))} {a : Nat}, (listsF n ls a).1 = 0 → (listsF n ls a).2 = 0
  | [], _, _ => rfl
  | x :: r, a, h => by
    simp only [listsF] at h ⊢
    split at h
    · simp at h
    · rename_i hle
      rw [if_neg hle]
      split at h
      · simp at h
      · exact listsF_zero' h
theorem checkF_zero' {ts : List Tm} {ls : List (List (Int × Int))} (h : (checkF ts ls).1 = 0) : (checkF ts ls).2 = 0 := by
  unfold checkF at h ⊢
  split at h
  · rename_i h0; rw [if_pos h0]; exact listsF_zero' h
  · rename_i h0; exact absurd h h0

set_option maxRecDepth 100000 in
set_option maxHeartbeats 4000000 in
theorem do_any (ts : List Tm) (ps aps : List (Int × Int)) (tv pv av : Value) (w : World) (hn : ts.length ≤ 80) (ht : TermsAt w tv ts) (hp : PairsAt w pv ps) (ha : PairsAt w av aps) :
    Calls Try.prog 9 #[tv, pv, av] w fun e w' => ∃ u v, e = .returned (.tuple #[.agg #[.int .i64 (doR ts ps aps).state, u, v, .int .i64 (doR ts ps aps).apart], FV (checkF ts [ps, aps])]) ∧
      NatsFrom w.heap.size w' u (doR ts ps aps).cls ∧ NatsFrom w.heap.size w' v (doR ts ps aps).why ∧ Below w.heap.size w w' := by
  have HTA := Lib.hid ht; have HPA := Lib.hid hp; have HAA := Lib.hid ha
  obtain ⟨ao, acap, rfl, haps⟩ := ha
  obtain ⟨po, pcap, rfl, hpps⟩ := hp
  have HAP := Lib.hid haps
  clear ht hpps haps
  have HCZ := Lib.hid (fun h => checkF_zero (ts := ts) (ls := [ps, aps]) h)
  have HCZ2 := Lib.hid (fun h => checkF_zero' (ts := ts) (ls := [ps, aps]) h)
  have HDR := Lib.hid (show doR ts ps aps = if (checkF ts [ps, aps]).1 ≠ 0 then ⟨0, [], [], 0⟩ else
    match firstI (hitP (classes ts ps) aps) aps.length with
    | some i => ⟨2, [], whyL ts ps (gP aps i).1.toNat (gP aps i).2.toNat, i⟩
    | none => ⟨1, classes ts ps, [], 0⟩ from rfl)
  have HCK := Lib.hid (fun (lv : Value) (W : World) h1 h2 => check_any ts [ps, aps] tv lv W hn (by simp) h1 h2)
  generalize hcf : checkF ts [ps, aps] = cf at HCZ HCZ2 HDR HCK ⊢
  obtain ⟨cc, ca⟩ := cf
  have HCF := Lib.hid hcf; clear hcf
  go_enter Try.func9, Try.ntmps9
  go_wp2_with fail
  have hR0 : (((w.alloc (.cells #[.int .i64 0, .slice none 0 0, .slice none 0 0, .int .i64 0] 26)).alloc (.cells #[.int .i64 0, .int .i64 0] 28)).alloc (.cells #[.slice po ps.length pcap, .slice ao aps.length acap] 23)).heap[w.heap.size]? = some (.cells #[.int .i64 0, .slice none 0 0, .slice none 0 0, .int .i64 0] 26 (0, 0)) :=
    heap_alloc_old (heap_alloc_old (heap_ofAlloc _ _))
  have hR1 : (((w.alloc (.cells #[.int .i64 0, .slice none 0 0, .slice none 0 0, .int .i64 0] 26)).alloc (.cells #[.int .i64 0, .int .i64 0] 28)).alloc (.cells #[.slice po ps.length pcap, .slice ao aps.length acap] 23)).heap[w.heap.size + 1]? = some (.cells #[.int .i64 0, .int .i64 0] 28 (0, 0)) := by
    refine heap_alloc_old ?_
    have := heap_ofAlloc (w.alloc (.cells #[.int .i64 0, .slice none 0 0, .slice none 0 0, .int .i64 0] 26)) (.cells #[.int .i64 0, .int .i64 0] 28)
    simpa using this
  have hR2 : (((w.alloc (.cells #[.int .i64 0, .slice none 0 0, .slice none 0 0, .int .i64 0] 26)).alloc (.cells #[.int .i64 0, .int .i64 0] 28)).alloc (.cells #[.slice po ps.length pcap, .slice ao aps.length acap] 23)).heap[w.heap.size + 1 + 1]? = some (.cells #[.slice po ps.length pcap, .slice ao aps.length acap] 23 (0, 0)) := by
    have := heap_ofAlloc ((w.alloc (.cells #[.int .i64 0, .slice none 0 0, .slice none 0 0, .int .i64 0] 26)).alloc (.cells #[.int .i64 0, .int .i64 0] 28)) (.cells #[.slice po ps.length pcap, .slice ao aps.length acap] 23)
    simpa using this
  have hbel : Below w.heap.size w (((w.alloc (.cells #[.int .i64 0, .slice none 0 0, .slice none 0 0, .int .i64 0] 26)).alloc (.cells #[.int .i64 0, .int .i64 0] 28)).alloc (.cells #[.slice po ps.length pcap, .slice ao aps.length acap] 23)) :=
    (((Below.refl _ _).alloc (Nat.le_refl _) _).alloc (by simp) _).alloc (by simp; omega) _
  generalize ((w.alloc (.cells #[.int .i64 0, .slice none 0 0, .slice none 0 0, .int .i64 0] 26)).alloc (.cells #[.int .i64 0, .int .i64 0] 28)).alloc (.cells #[.slice po ps.length pcap, .slice ao aps.length acap] 23) = W3 at hR0 hR1 hR2 hbel ⊢
  refine (HCK.out _ _ (HTA.out.below hbel) ⟨some ⟨w.heap.size + 1 + 1, 0, none⟩, 2, rfl, fun j hj => ?_⟩).mono ?_
  · obtain ⟨⟨q0, _⟩, q1, _⟩ := box2 hR2
    match j, hj with
    | 0, _ => exact ⟨_, 0, _, rfl, q0, HPA.out.below hbel⟩
    | 1, _ => exact ⟨_, 0, _, rfl, q1, HAA.out.below hbel⟩
  rintro e w1 ⟨rfl, hb1⟩
  have hbel1 := Below.step hbel hb1
  have hS0 := Below.heapAt hb1 hR0
  have hS1 := Below.heapAt hb1 hR1
  have hsz := hbel1.size
  have hl0 := heap_lt hS0
  have hl1 := heap_lt hS1
  clear hR0 hR1 hR2 hbel hb1
  rw [FV_mk]
  obtain ⟨⟨k0, f0⟩, ⟨k1, f1⟩, ⟨k2, f2⟩, k3, f3⟩ := box4 hS0
  obtain ⟨⟨m0, g0⟩, m1, g1⟩ := box2 hS1
  have HS0 := Lib.hid hS0; have HS1 := Lib.hid hS1; have HB1 := Lib.hid hbel1; clear hS0 hS1 hbel1
  by_cases hc0 : cc = 0
  · obtain ⟨h60, hki, hall⟩ := HCZ.out hc0
    have hpl := hall ps (by simp)
    have hal := hall aps (by simp)
    have HKI := Lib.hid hki; have HPL := Lib.hid hpl.2; have HAL := Lib.hid hal.2
    have hp120 := hpl.1
    have ha120 := hal.1
    have HDR2 := Lib.hid (show doR ts ps aps = match firstI (hitP (classes ts ps) aps) aps.length with
      | some i => ⟨2, [], whyL ts ps (gP aps i).1.toNat (gP aps i).2.toNat, i⟩
      | none => ⟨1, classes ts ps, [], 0⟩ by rw [HDR.out]; simp [hc0])
    clear hki hpl hal hall
    have hca0 := HCZ2.out hc0
    (try simp only at hca0)
    subst hc0
    subst hca0
    have hbA := (Below.refl w1.heap.size w1).alloc (Nat.le_refl _) (.cells #[.int .i64 0, .int .i64 0] 28)
    have HBA := Lib.hid hbA; clear hbA
    have HGD := Lib.hid (classes_good (ts := ts) HPL.out)
    go_wp2_with fail
    refine (classes_any ts ps _ _ _ (by omega) (by omega) HKI.out HPL.out ((HTA.out.below HB1.out).below HBA.out) ((HPA.out.below HB1.out).below HBA.out)).mono ?_
    rintro e w2 ⟨u, rfl, hcl, hb2⟩
    have hbel2 := Below.step (Below.step HB1.out HBA.out) hb2
    have hT0 := Below.heapAt hb2 (Below.heapAt HBA.out HS0.out)
    have hT1 := Below.heapAt hb2 (Below.heapAt HBA.out HS1.out)
    clear k0 f0 k1 f1 k2 f2 k3 f3 m0 g0 m1 g1 HS0 HS1
    generalize hCL : classes ts ps = CL at hcl HDR2 HGD
    have HCL := Lib.hid hCL; clear hCL
    have hszA : w.heap.size + 1 + 1 ≤ (w1.alloc (.cells #[.int .i64 0, .int .i64 0] 28)).heap.size := by simp; omega
    have HN := Lib.hid (hcl.mono hszA); clear hcl hszA
    have HT0 := Lib.hid hT0; have HT1 := Lib.hid hT1; clear hT0 hT1
    go_wp2_with fail
    go_loopw [10, 11, 27] (fun _ _ i wr => ∃ k : Nat, k ≤ aps.length ∧ i = .int .i64 k ∧ Below w.heap.size w wr ∧ (∀ j, j < k → hitP CL aps j = false) ∧ NatsFrom (w.heap.size + 1 + 1) wr u CL ∧
        wr.heap[w.heap.size]? = some (.cells #[.int .i64 0, .slice none 0 0, .slice none 0 0, .int .i64 0] 26 (0, 0)) ∧ wr.heap[w.heap.size + 1]? = some (.cells #[.int .i64 0, .int .i64 0] 28 (0, 0))) (fun _ _ i _ => aps.length - (intOf i).toNat)
    case atStart => exact ⟨0, by omega, rfl, hbel2, by simp, HN.out, HT0.out, HT1.out⟩
    case round =>
      obtain ⟨k, hk, rfl, hbel, hno, hnat, hS0, hS1⟩ := hrel
      have HNO := Lib.hid hno; have HN2 := Lib.hid hnat; clear hno hnat hbel2
      obtain ⟨⟨k0, f0⟩, ⟨k1, f1⟩, ⟨k2, f2⟩, k3, f3⟩ := box4 hS0
      obtain ⟨⟨m0, g0⟩, m1, g1⟩ := box2 hS1
      have hl0 := heap_lt hS0
      have hl1 := heap_lt hS1
      have HS0 := Lib.hid hS0; have HS1 := Lib.hid hS1; clear hS0 hS1
      by_cases hlt : k < aps.length
      · obtain ⟨b, off, rfl, x1, x2⟩ := HAP.out k hlt
        have y1 := Below.cellOf hbel x1
        have y2 := Below.cellOf hbel x2
        have r := HAL.out k hlt
        obtain ⟨x, hx⟩ := Int.eq_ofNat_of_zero_le r.1
        obtain ⟨y, hy⟩ := Int.eq_ofNat_of_zero_le r.2.2.1
        have hxn : x < CL.length := by rw [HGD.out.len]; omega
        have hyn : y < CL.length := by rw [HGD.out.len]; omega
        have HHIT := Lib.hid (show hitP CL aps k = ((gN CL x : Int) == (gN CL y : Int)) by
          unfold hitP; rw [hx, hy, Bool.eq_iff_iff]; simp <;> omega)
        have HXX := Lib.hid (show (gP aps k).1.toNat = x ∧ (gP aps k).2.toNat = y by rw [hx, hy]; simp)
        have hlenC := HGD.out.len
        simp only [hx, hy] at y1 y2
        clear x1 x2 r hx hy
        obtain ⟨co, cc, rfl, hcc⟩ := HN2.out.1
        obtain ⟨cb, cf, rfl, g1'⟩ := hcc.get hxn
        obtain ⟨cb', cf', e0, g2'⟩ := hcc.get hyn
        simp only [Option.some.injEq, Addr.mk.injEq] at e0
        obtain ⟨rfl, rfl, _⟩ := e0
        have hcb := block_lt_of_cell g1'
        simp only at hcb
        clear hcc
        have HBB := Lib.hid ((Below.refl wr.heap.size wr).alloc (Nat.le_refl _) (.cells #[.int .i64 x, .int .i64 y] 34))
        have hsz2 := hbel.size
        have hlenC' := Lib.hid hlenC; clear hlenC
        cases hht : ((gN CL x : Int) == (gN CL y : Int)) with
        | false =>
          have HH2 := Lib.hid hht
          go_wp2_with fail
          go_quiet (fail)
          go_wp2_with fail
          go_roundw
          case rel =>
            have hbq : Below wr.heap.size wr ((wr.alloc (.cells #[.int .i64 x, .int .i64 y] 34)).drewN nq) := below_drewN HBB.out nq
            exact ⟨k + 1, by omega, by go_num, Below.step hbel hbq, fun j hj => (by rcases Nat.lt_succ_iff_lt_or_eq.1 hj with h | rfl; exact HNO.out j h; rw [HHIT.out, HH2.out]), HN2.out.below hbq, Below.heapAt hbq HS0.out, Below.heapAt hbq HS1.out⟩
          case measure => simp [intOf] <;> omega
        | true =>
          have HH2 := Lib.hid hht
          have HD3 := Lib.hid (show doR ts ps aps = ⟨2, [], whyL ts ps x y, k⟩ by
            rw [HDR2.out, firstI_hit hlt HNO.out (by rw [HHIT.out, HH2.out])]; simp only [HXX.out.1, HXX.out.2])
          go_wp2_with fail
          go_quiet (fail)
          have hbq : Below wr.heap.size wr ((wr.alloc (.cells #[.int .i64 x, .int .i64 y] 34)).drewN nq) := below_drewN HBB.out nq
          have HBQ := Lib.hid hbq; clear hbq
          go_wp2_with fail
          refine (why_any ts ps x y _ _ _ (by omega) (by omega) HKI.out HPL.out (by have := hlenC'.out; omega) (by have := hlenC'.out; omega) ((HTA.out.below hbel).below HBQ.out) ((HPA.out.below hbel).below HBQ.out)).mono ?_
          rintro e w3 ⟨v, rfl, hwl, hb3⟩
          have hbel3 := Below.step (Below.step hbel HBQ.out) hb3
          have hV0 := Below.heapAt hb3 (Below.heapAt HBQ.out HS0.out)
          have hV1 := Below.heapAt hb3 (Below.heapAt HBQ.out HS1.out)
          have hszW : w.heap.size + 1 + 1 ≤ ((wr.alloc (.cells #[.int .i64 x, .int .i64 y] 34)).drewN nq).heap.size := by simp; omega
          have HWL := Lib.hid (hwl.mono hszW)
          clear hszW
          clear k0 f0 k1 f1 k2 f2 k3 f3 m0 g0 m1 g1 HS0 HS1 y1 y2 g1' g2'
          obtain ⟨wo, wc, rfl, _⟩ := hwl.1
          obtain ⟨⟨k0, f0⟩, ⟨k1, f1⟩, ⟨k2, f2⟩, k3, f3⟩ := box4 hV0
          obtain ⟨⟨m0, g0⟩, m1, g1⟩ := box2 hV1
          have hm0 := heap_lt hV0
          have hm1 := heap_lt hV1
          have HV0 := Lib.hid hV0; have HV1 := Lib.hid hV1; clear hV0 hV1
          go_wp2_with fail
          refine ret_box42 (.int .i64 2) (.slice none 0 0) (.slice wo (whyL ts ps x y).length wc) (.int .i64 k) (.int .i64 0) (.int .i64 0) w.heap.size (w.heap.size + 1) 26 28 ?h1 ?h2 ?h3 rfl ?h4
          case h1 => exact heap_set_other (heap_set_other (box4_set HV0.out _ _ _ _) (by simp)) (by simp)
          case h2 => exact box2_set (heap_set_other (heap_set_other (heap_set_other (heap_set_other HV1.out (by simp)) (by simp)) (by simp)) (by simp)) _ _
          case h3 => intro w' q0 q1 q2 q3 q4 q5; simp [results, Try.results9, go_sem, q0, q1, q2, q3, q4, q5]
          case h4 =>
            refine ⟨.slice none 0 0, .slice wo (whyL ts ps x y).length wc, by rw [HD3.out]; rfl, by rw [HD3.out]; exact NatsFrom.nil _ _, ?_, ?_⟩
            · rw [HD3.out]
              exact ((((((HWL.out.setCell (by simp; omega) _).setCell (by simp; omega) _).setCell (by simp; omega) _).setCell (by simp; omega) _).setCell (by simp) _).setCell (by simp) _).mono (by omega)
            · exact (((((hbel3.setCell (Nat.le_refl _) _).setCell (Nat.le_refl _) _).setCell (Nat.le_refl _) _).setCell (Nat.le_refl _) _).setCell (by simp) _).setCell (by simp) _
      · obtain rfl : k = aps.length := by omega
        have HD3 := Lib.hid (show doR ts ps aps = ⟨1, CL, [], 0⟩ by rw [HDR2.out, firstI_none HNO.out])
        obtain ⟨co, cc, rfl, hcc⟩ := HN2.out.1
        clear hcc
        go_wp2_with fail
        refine ret_box42 (.int .i64 1) (.slice co CL.length cc) (.slice none 0 0) (.int .i64 0) (.int .i64 0) (.int .i64 0) w.heap.size (w.heap.size + 1) 26 28 ?h1 ?h2 ?h3 rfl ?h4
        case h1 => exact heap_set_other (heap_set_other (box4_set HS0.out _ _ _ _) (by simp)) (by simp)
        case h2 => exact box2_set (heap_set_other (heap_set_other (heap_set_other (heap_set_other HS1.out (by simp)) (by simp)) (by simp)) (by simp)) _ _
        case h3 => intro w' q0 q1 q2 q3 q4 q5; simp [results, Try.results9, go_sem, q0, q1, q2, q3, q4, q5]
        case h4 =>
          refine ⟨.slice co CL.length cc, .slice none 0 0, by rw [HD3.out]; rfl, ?_, by rw [HD3.out]; exact NatsFrom.nil _ _, ?_⟩
          · rw [HD3.out]
            exact ((((((HN2.out.setCell (by simp; omega) _).setCell (by simp; omega) _).setCell (by simp; omega) _).setCell (by simp; omega) _).setCell (by simp) _).setCell (by simp) _).mono (by omega)
          · exact (((((hbel.setCell (Nat.le_refl _) _).setCell (Nat.le_refl _) _).setCell (Nat.le_refl _) _).setCell (Nat.le_refl _) _).setCell (by simp) _).setCell (by simp) _
  · have hc1 : (cc != 0) = true := by simp [hc0]
    have HC0 := Lib.hid hc0; clear hc0
    go_wp2_with fail
    go_region
    go_wp2_with fail
    refine ret_box42 (.int .i64 0) (.slice none 0 0) (.slice none 0 0) (.int .i64 0) (.int .i64 cc) (.int .i64 ca) w.heap.size (w.heap.size + 1) 26 28 ?h1 ?h2 ?h3 rfl ?h4
    case h1 => exact heap_alloc_old (heap_set_other (heap_set_other (box4_set HS0.out _ _ _ _) (by simp)) (by simp))
    case h2 => exact heap_alloc_old (box2_set (heap_set_other (heap_set_other (heap_set_other (heap_set_other HS1.out (by simp)) (by simp)) (by simp)) (by simp)) _ _)
    case h3 => intro w' q0 q1 q2 q3 q4 q5; simp [results, Try.results9, go_sem, q0, q1, q2, q3, q4, q5]
    case h4 =>
      have hd : doR ts ps aps = ⟨0, [], [], 0⟩ := by rw [HDR.out, if_pos (by exact HC0.out)]
      refine ⟨.slice none 0 0, .slice none 0 0, by rw [hd]; rfl, by rw [hd]; exact NatsFrom.nil _ _, by rw [hd]; exact NatsFrom.nil _ _, ?_⟩
      exact Below.drew (Below.alloc ((((((HB1.out.setCell (Nat.le_refl _) _).setCell (Nat.le_refl _) _).setCell (Nat.le_refl _) _).setCell (Nat.le_refl _) _).setCell (by simp) _).setCell (by simp) _) (by simp; omega) _)
end Go.Proofs.Ytcckgfgobakphab
