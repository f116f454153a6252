/-
  Walks: (*unify.solver).round; unify at any map.
-/
import Derived.Test.YtlhnfdjidjgfgaaProg
import Derived.Test.YtlhnfdjidjgfgaaUx3
import Derived.Maps.RangeWalk
import Derived.Laws.EntriesVeiled
namespace Go.Proofs.Ytlhnfdjidjgfgaa
open Go.RowKit Go.Shelf Go.Maps
set_option linter.unusedVariables false
set_option maxHeartbeats 400000

theorem visit_all (N : Nat) (p : Nat → Prop) (b b1 b3 b4 bs bm : Nat) (M : PM) (W0 : World) (hN : N ≤ 1000) (hMT : MapT N p b M W0) (hbs : W0.heap[bs]? = some (.cells #[.map (some b)] 165 (0, 0))) (hg : GoodM N M) (hp : ∀ c, p c → c < W0.heap.size)
    (h1 : W0.heap.size ≤ b1) (h3 : W0.heap.size ≤ b3) (h4 : W0.heap.size ≤ b4) (hm : W0.heap.size ≤ bm) : ∀ n, VisitOK N p b1 b3 b4 bs bm M W0 n := by
  intro n
  induction n using Nat.strongRecOn with
  | _ n ih => exact visit_step N p b b1 b3 b4 bs bm M W0 hN hMT hbs hg hp h1 h3 h4 hm n ih
/-- what the range over the map meets -/
theorem MapT.open {N : Nat} {p : Nat → Prop} {b : Nat} {M : PM} {w : World} (h : MapT N p b M w) : ∃ (D : DataW Value) (n : Nat), w.ownsMap Try.prog 3 treeR b n D ∧ n ≤ N ∧
    (∀ x t, M x = some t → Maps.has D (kV x) = true) ∧ ∀ (z : Int) (y : DataW Value × List MemPlace) (v : Value), treeR v = some y → (∀ zd, D.atKey (.int .i64 z) zd = y.1) → z < 0 ∧ ∃ t, M (-z - 1).toNat = some t := by
  obtain ⟨D, n, h1, h2, h3, h4, h5⟩ := h
  refine ⟨D, n, h1, by omega, fun x t ht => (h4 x t ht).1, fun z y v hv hy => ?_⟩
  refine Classical.byContradiction fun hno => ?_
  have h6 := (h5 (.int .i64 z) (fun x t hx e => hno (by
    have e2 : z = -(x : Int) - 1 := by unfold kV at e; injection e
    refine ⟨by omega, t, ?_⟩
    rw [show (-z - 1).toNat = x by omega]; exact hx))).2
  have h7 := hy .nil
  have h8 := hy (.lit (.bool true))
  rw [h6] at h7 h8
  rw [← h7] at h8; cases h8
theorem frame_grown {W0 w w' : World} {bm : Nat} (h0 : Below W0.heap.size W0 w) (h1 : Below W0.heap.size W0 w') (hf : ∀ c, c < w.heap.size → c ≠ bm → w'.heap[c]? = w.heap[c]?) (hz : w.heap.size ≤ w'.heap.size) : w.grownBy w' (some bm) :=
  ⟨h1.os.trans h0.os.symm, h1.tape.trans h0.tape.symm, h1.output.trans h0.output.symm, hz, fun c hc hne => hf c hc (fun e => hne (by rw [e]))⟩
/-- an entry has come -/
def NextT (D : DataW Value) (b r n : Nat) (left : Lit → Bool) (cnt : Nat) (w w' : World) (x : Int) (v : Value) (cnt' : Nat) : Prop :=
  (Lit.int .i64 x).wf = true ∧ left (.int .i64 x) = true ∧ (∃ c, v = treeV c ∧ ∀ zd, D.atKey (.int .i64 x) zd = .held (treeV c)) ∧ w'.ranges Try.prog 3 treeR b r n D (fun z => left z && !z.sameKey (.int .i64 x)) cnt' ∧ cnt' < cnt ∧ w.grownBy w' (some r) ∧ w'.heap.size = w.heap.size
def NoneLeft (left : Lit → Bool) : Prop := ∀ kl, left kl = false
theorem wpList_next_T (w : World) {ops : Array Oper} {rest : List Oper} {o : Oper} {a : Act} {Q : Exit → Act → World → Prop} (hg : o.guard = none) (it : Operand) (hop : o.op = Op.next it false) (b r n : Nat) (D : DataW Value) (left : Lit → Bool) (cnt : Nat)
    (hit : a.eval it = .pointer (some ⟨r, 0, none⟩)) (h : w.ranges Try.prog 3 treeR b r n D left cnt)
    (hDone : NoneLeft left → wpList Try.prog ops Q rest (a.put o.dst (.tuple #[.bool false])) w)
    (hMore : ∀ (x : Int) (v : Value) (w' : World) (cnt' : Nat), NextT D b r n left cnt w w' x v cnt' → (Instr.entry (.pointer (some ⟨r, 0, none⟩))).run Try.prog w' = .ok (.tuple #[.int .i64 x, v]) w' → wpList Try.prog ops Q rest (a.put o.dst (.tuple #[.bool true, .int .i64 x, v])) w') :
    wpList Try.prog ops Q (o :: rest) a w :=
  wpList_next_ranges w hg it hop 3 law3 treeR (Value.int .i64) treeV (fun key kl hk => by obtain ⟨x, rfl, _⟩ := Maps.keyOf_int_inv Try.underlying3 hk; exact ⟨x, rfl⟩) (fun v y hv => by obtain ⟨c, rfl, _⟩ := treeR_inv hv; exact ⟨c, rfl⟩) b r n D left cnt hit h
    (fun _ hl => hDone hl) (fun x c kl y w' cnt' hkey hlk hv hat hrg hlt hgr hsz hen => by
      obtain ⟨x', ex, rfl, hwx⟩ := Maps.keyOf_int_inv Try.underlying3 hkey
      cases ex
      rw [treeR_mk] at hv
      obtain rfl := Option.some.inj hv
      exact hMore x _ w' cnt' ⟨hwx, hlk, ⟨c, rfl, hat⟩, hrg, hlt, hgr, hsz⟩ hen)
def RoundP (M : PM) (w : World) (e : Ending) (w' : World) : Prop := ∃ r : Bool, e = .returned (.bool r) ∧ (r = true → ∀ θ, ¬ Sol M θ) ∧ (r = false → Acyc M) ∧ Below w.heap.size w w'

set_option maxRecDepth 100000 in
set_option maxHeartbeats 8000000 in
theorem round153 (N : Nat) (p : Nat → Prop) (b bs : Nat) (M : PM) (w : World) (hMT : MapT N p b M w) (hbs : w.heap[bs]? = some (.cells #[.map (some b)] 165 (0, 0))) (hg : GoodM N M) (hN : N ≤ 1000) (hp : ∀ c, p c → c < w.heap.size) :
    Calls Try.prog 153 #[.pointer (some ⟨bs, 0, none⟩)] w (RoundP M w) := by
  have hmm := @run_makeMap Try.prog
  obtain ⟨b1, hb1⟩ : ∃ b, b = w.heap.size := ⟨_, rfl⟩
  have hlb := hMT.lt
  have hls := heap_lt hbs
  have S1 := (((St.start w).box hb1.symm #[.pointer (some ⟨bs, 0, none⟩)] 160).alloc (.map #[] 0))
  have hsz1 : (w.alloc (.cells #[.pointer (some ⟨bs, 0, none⟩)] 160)).heap.size = b1 + 1 := by simp [hb1]
  have hsz2 : ((w.alloc (.cells #[.pointer (some ⟨bs, 0, none⟩)] 160)).alloc (.map #[] 0)).heap.size = b1 + 2 := by simp [hb1]
  have hS := MapS.made (N := N) (K := 2 * N) (Nat.le_refl _) (w.alloc (.cells #[.pointer (some ⟨bs, 0, none⟩)] 160))
  rw [hsz1] at hS
  have S2 := S1.add (.mapS N (2 * N) (b1 + 1) [] []) hS
  have S3 := (S2.box (b := b1 + 2) hsz2 #[.map (some (b1 + 1))] 170).box (b := b1 + 3) (by simp [hb1]) #[.func (.func 158) #[] #[.pointer (some ⟨b1 + 2, 0, none⟩), .pointer (some ⟨b1, 0, none⟩), .pointer (some ⟨b1 + 3, 0, none⟩)]] 144
  have hsz4 : ((((w.alloc (.cells #[.pointer (some ⟨bs, 0, none⟩)] 160)).alloc (.map #[] 0)).alloc (.cells #[.map (some (b1 + 1))] 170)).alloc (.cells #[.func (.func 158) #[] #[.pointer (some ⟨b1 + 2, 0, none⟩), .pointer (some ⟨b1, 0, none⟩), .pointer (some ⟨b1 + 3, 0, none⟩)]] 144)).heap.size = b1 + 4 := by simp [hb1]
  have HM := Lib.hid hMT; have HG := Lib.hid hg; have HP := Lib.hid hp; have HBSX := Lib.hid hbs; have HN := Lib.hid hN
  have HB1 := Lib.hid hb1
  have HS3 := Lib.hid S3
  clear S1 S2 hS hMT hg hp hN
  have HX := Lib.hid hbs
  clear hbs hlb hls hsz1 hsz2 S3
  go_enter Try.func153, Try.ntmps153
  go_upto_region 4 with (fail)
  rw [← hb1]
  have S := HS3.out
  refine S.genC (z := b1 + 4) (by omega) ?_
  intro w3 z3 S
  clear hsz4 HS3 hmm
  have S : St w w3 [.box b1 #[.pointer (some ⟨bs, 0, none⟩)] 160, .mapS N (2 * N) (b1 + 1) [] [], .box (b1 + 2) #[.map (some (b1 + 1))] 170, .box (b1 + 3) #[.func (.func 158) #[] #[.pointer (some ⟨b1 + 2, 0, none⟩), .pointer (some ⟨b1, 0, none⟩), .pointer (some ⟨b1 + 3, 0, none⟩)]] 144] := S
  obtain ⟨x0, _⟩ := S.one 0
  obtain ⟨x3, _⟩ := S.one 3
  obtain ⟨y0, _⟩ := box1 (Below.heapAt S.bel HX.out)
  obtain ⟨D, n, hown, hnN, hdom, hkey⟩ := (HM.out.kept S.bel).open
  have HDOM := Lib.hid hdom; have HKEY := Lib.hid hkey; have HNN := Lib.hid hnN
  have HV := Lib.hid (visit_all N p b b1 (b1 + 2) (b1 + 3) bs (b1 + 1) M w HN.out HM.out HX.out HG.out HP.out (by omega) (by omega) (by omega) (by omega))
  have hb1' : w.heap.size ≤ b1 ∧ b1 ≤ w.heap.size := by omega
  have hlb := HM.out.lt
  clear hdom hkey hnN hb1
  go_wp2_with (first | (at_range; refine wpList_range_own _ rfl _ 163 rfl 3 38 law3 Try.underlying163 treeR b n D rfl hown ?_; intro w4 hrg4 hg4 hs4))
  go_frame
  have HRG := Lib.hid hrg4
  have S4 : St w w4 [.box b1 #[.pointer (some ⟨bs, 0, none⟩)] 160, .mapS N (2 * N) (b1 + 1) [] [], .box (b1 + 2) #[.map (some (b1 + 1))] 170, .box (b1 + 3) #[.func (.func 158) #[] #[.pointer (some ⟨b1 + 2, 0, none⟩), .pointer (some ⟨b1, 0, none⟩), .pointer (some ⟨b1 + 3, 0, none⟩)]] 144] := S.carry (S.bel.grown hg4 S.bel.size (fun c hc => by cases hc)) (fun i c hc hl => hg4.block c hl (by simp))
  have HS4 := Lib.hid S4
  obtain ⟨br, hbr⟩ : ∃ r, r = w3.heap.size := ⟨_, rfl⟩
  rw [← hbr] at HRG ⊢
  have hbr2 : b1 + 4 ≤ br := by omega
  have hz4 : br + 1 ≤ w4.heap.size := by omega
  clear hrg4 S4 S hg4 hs4 hown x0 x3 y0 hbr z3
  go_loopw [5] (fun _ wr => ∃ (left : Lit → Bool) (cnt : Nat) (Dd : List Nat), wr.ranges Try.prog 3 treeR b br n D left cnt ∧ OrdD M Dd ∧ (∀ x t, M x = some t → left (kV x) = true ∨ x ∈ Dd) ∧ br + 1 ≤ wr.heap.size ∧
    St w wr [.box b1 #[.pointer (some ⟨bs, 0, none⟩)] 160, .mapS N (2 * N) (b1 + 1) Dd [], .box (b1 + 2) #[.map (some (b1 + 1))] 170, .box (b1 + 3) #[.func (.func 158) #[] #[.pointer (some ⟨b1 + 2, 0, none⟩), .pointer (some ⟨b1, 0, none⟩), .pointer (some ⟨b1 + 3, 0, none⟩)]] 144]) (fun _ wr => wr.rangeLeft b br)
  case atStart => exact ⟨_, _, [], HRG.out, OrdD.nil M, fun x t ht => .inl (HDOM.out x t ht), hz4, HS4.out⟩
  case round =>
    clear HRG HS4 hz4
    obtain ⟨left, cnt, Dd, hrg, ho, hl, hz, S⟩ := hrel
    have HO := Lib.hid ho; have HL := Lib.hid hl; have HRG := Lib.hid hrg
    have HLE := Lib.hid hrg.left_eq
    obtain ⟨x3, _⟩ := S.one 3
    clear ho hl
    go_wp2_with (first | (at_next; refine wpList_next_T _ rfl _ rfl b br n D left cnt rfl hrg ?_ ?_))
    · intro hl0
      have HL0 := Lib.hid hl0
      have HAC := Lib.hid (OrdD.acyc HO.out (fun x hx => by
        cases hm : M x with
        | none => exact absurd hm hx
        | some t =>
          rcases HL.out x t hm with h | h
          · rw [HL0.out (kV x)] at h; cases h
          · exact h))
      have HB := Lib.hid S.bel
      clear hl0 hrg S x3
      go_wp2_with fail
      go_ret
      exact ⟨false, rfl, (fun h => by cases h), (fun _ => HAC.out), HB.out⟩
    · intro x v w5 cnt5 hnx hen
      obtain ⟨hwf, hlk, ⟨c, hvc, hat⟩, hrg5, hlt5, hg5, hs5⟩ := hnx
      obtain ⟨hneg, t, hMx⟩ := HKEY.out x (.held (treeV c), []) (treeV c) (treeR_mk c) hat
      have hgx := HG.out _ _ hMx
      have S5 : St w w5 [.box b1 #[.pointer (some ⟨bs, 0, none⟩)] 160, .mapS N (2 * N) (b1 + 1) Dd [], .box (b1 + 2) #[.map (some (b1 + 1))] 170, .box (b1 + 3) #[.func (.func 158) #[] #[.pointer (some ⟨b1 + 2, 0, none⟩), .pointer (some ⟨b1, 0, none⟩), .pointer (some ⟨b1 + 3, 0, none⟩)]] 144] := S.carry (S.bel.grown hg5 S.bel.size (fun c hc => by cases hc; omega)) (fun i c hc hl => hg5.block c hl (fun e => by
        cases e
        match i, hc with
        | 0, hc => have hc : br = b1 := hc; omega
        | 1, hc => have hc : br = b1 + 1 := hc; omega
        | 2, hc => have hc : br = b1 + 2 := hc; omega
        | 3, hc => have hc : br = b1 + 3 := hc; omega
        | i + 4, hc => exact hc.elim))
      have HLT5 := Lib.hid hlt5; have HRG5 := Lib.hid hrg5; have HMX := Lib.hid hMx
      have HC := Lib.hid (HV.out (newN N Dd []) (2 * N) Dd [] x w5 (Nat.le_refl _) hneg hgx.1 (by have := HN.out; omega) ((S5.pick [2, 0, 3, 1])) HO.out (fun z hz => by cases hz))
      obtain ⟨x3, _⟩ := S5.one 3
      have HS5 := Lib.hid S5
      clear hvc hlk hat hrg5 hlt5 hg5 hgx hMx S S5 hrg hwf
      go_wp2_with fail
      refine HC.out.mono ?_
      rintro e w6 ⟨r, rfl, hr1, hr2, hfr, hz6, hb6⟩
      cases r with
      | true =>
        have HNS := Lib.hid (show ∀ θ, ¬ Sol M θ from fun θ hθ => by obtain ⟨z, hz⟩ := hr1 rfl; exact no_round HG.out hθ z hz)
        have HB := Lib.hid hb6
        clear hr1 hr2 hfr hb6
        go_wp2_with fail
        go_ret
        exact ⟨true, rfl, (fun _ => HNS.out), (fun h => by cases h), HB.out⟩
      | false =>
        obtain ⟨D', m1, m2, m3, m4⟩ := hr2 rfl
        have hgr := frame_grown HS5.out.bel hb6 hfr hz6
        have HR6 := Lib.hid (HRG5.out.kept hgr (fun e => by cases e; omega) (fun e => by cases e; omega))
        have S6 := Lib.hid (HS5.out.mapPutS 1 rfl m1 hgr (by omega) (by simp only [offs, offAll, Fct.box, and_true]; omega))
        have HO6 := Lib.hid m4; have HM2 := Lib.hid m2; have HM3 := Lib.hid m3
        clear hr1 hr2 hfr hb6 m1 m2 m3 m4 hgr x3
        go_wp2_with fail
        go_roundw
        case rel =>
          refine ⟨_, _, D', HR6.out, HO6.out, fun z u hz => ?_, by omega, S6.out⟩
          rcases HL.out z u hz with h | h
          · by_cases e : z = (-x - 1).toNat
            · rw [e]; exact .inr HM3.out
            · refine .inl ?_
              rw [h, Bool.true_and]
              unfold kV
              simp only [Lit.sameKey, Bool.not_eq_true', decide_eq_false_iff_not]
              exact fun e2 => e (by have := e2.2; omega)
          · exact .inr (HM2.out.subset h)
        case measure =>
          rw [HLE.out, HR6.out.left_eq]
          exact HLT5.out
theorem roundOK : RoundOK := fun N p b bs M w h1 h2 h3 h4 h5 => round153 N p b bs M w h1 h2 h3 h4 h5
theorem unify_all (N : Nat) (p : Nat → Prop) (b bs : Nat) (w0 : World) (hb0 : w0.heap.size ≤ b) (hbs0 : w0.heap.size ≤ bs) (hp : ∀ c, p c → c < w0.heap.size) (hN : N ≤ 1000) : ∀ n s, UniOK N p b bs w0 n s := by
  intro n
  induction n using Nat.strongRecOn with
  | _ n ihn =>
    intro s
    induction s using Nat.strongRecOn with
    | _ s ihs => exact unify_step roundOK N p b bs w0 hb0 hbs0 hp hN n s (fun n' s' h => ihn n' h s') (fun s' h => ihs s' h)
end Go.Proofs.Ytlhnfdjidjgfgaa
