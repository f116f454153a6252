/-
  Walks: are two facts, two claims the same?
  Walks: is a lore vast?
  Walks: claim.SameFact; the function that trace.Once hands on.
  Walks: claim.Same; is a claim among these?
  Walks: is a claim among these?
-/
import Derived.Test.YtlhnfdjidjgfgaaProg
import Derived.Test.YtlhnfdjidjgfgaaXd
import Derived.Test.YtlhnfdjidjgfgaaXa
import Derived.Test.YtlhnfdjidjgfgaaXe
import Derived.RegionTactic
namespace Go.Proofs.Ytlhnfdjidjgfgaa
open Go.RowKit Go.Shelf
set_option linter.unusedVariables false
set_option maxHeartbeats 400000

noncomputable instance : DecidableEq Fc := fun _ _ => Classical.propDecidable _
theorem St.cell {w0 w : World} {l : List Fct} (S : St w0 w l) (i : Nat) {b : Nat} {cs : Array Value} {T : TypeId} (j : Nat) {v : Value} (hj : cs[j]? = some v) (hi : Fct.at l i = Fct.box b cs T := by rfl) : w.cell? ⟨b, j, none⟩ = some v ∧ w.frozen? ⟨b, j, none⟩ = false := by
  have h := S.block i hi
  simp [World.cell?, World.frozen?, h, hj]
theorem Fc.ext_of {f g : Fc} (h1 : f.neg = g.neg) (h2 : f.l = g.l) (h3 : f.r = g.r) : f = g := by
  cases f; cases g; simp at h1 h2 h3; subst h1 h2 h3; rfl

set_option maxRecDepth 100000 in
set_option maxHeartbeats 4000000 in
theorem sameFact67 (f g : Fc) (k k2 j j2 : Option Addr) (sp sp2 sq sq2 : Nat) (w : World) (h1 : TreeAt w (.agg #[.int .i64 f.l.head, .slice k f.l.kids.length (f.l.kids.length + sp)]) f.l) (h2 : TreeAt w (.agg #[.int .i64 f.r.head, .slice k2 f.r.kids.length (f.r.kids.length + sp2)]) f.r)
    (h3 : TreeAt w (.agg #[.int .i64 g.l.head, .slice j g.l.kids.length (g.l.kids.length + sq)]) g.l) (h4 : TreeAt w (.agg #[.int .i64 g.r.head, .slice j2 g.r.kids.length (g.r.kids.length + sq2)]) g.r) :
    Calls Try.prog 62 #[.agg #[.bool f.neg, .int .i64 f.l.head, .slice k f.l.kids.length (f.l.kids.length + sp), .int .i64 f.r.head, .slice k2 f.r.kids.length (f.r.kids.length + sp2)],
      .agg #[.bool g.neg, .int .i64 g.l.head, .slice j g.l.kids.length (g.l.kids.length + sq), .int .i64 g.r.head, .slice j2 g.r.kids.length (g.r.kids.length + sq2)]] w fun e w' => e = .returned (.bool (decide (f = g))) ∧ Below w.heap.size w w' := by
  have H1 := Lib.hid h1; have H2 := Lib.hid h2; have H3 := Lib.hid h3; have H4 := Lib.hid h4
  clear h1 h2 h3 h4
  obtain ⟨bx, hbx⟩ : ∃ b, b = w.heap.size := ⟨_, rfl⟩
  have S := ((St.start w).box hbx.symm #[.bool f.neg, .int .i64 f.l.head, .slice k f.l.kids.length (f.l.kids.length + sp), .int .i64 f.r.head, .slice k2 f.r.kids.length (f.r.kids.length + sp2)] 62).box (b := bx + 1) (by simp [hbx]) #[.bool g.neg, .int .i64 g.l.head, .slice j g.l.kids.length (g.l.kids.length + sq), .int .i64 g.r.head, .slice j2 g.r.kids.length (g.r.kids.length + sq2)] 62
  by_cases hn : f.neg = g.neg
  · have hnb : (f.neg == g.neg) = true := by simp [hn]
    have HN := Lib.hid hn
    clear hn
    go_enter Try.func62, Try.ntmps62
    go_wp2_with fail
    refine S.gen (z := bx + 2) (by simp [hbx]) ?_
    intro w1 z1 S1
    clear S
    refine (S1.quiet (same22 f.l g.l _ _ w1 (H1.out.kept S1.bel) (H3.out.kept S1.bel))).mono ?_
    rintro e w2 ⟨rfl, z2, S2⟩
    clear S1
    cases hv : decide (f.l = g.l) with
    | false =>
      have HF := Lib.hid (show decide (f = g) = false from decide_eq_false (fun e => of_decide_eq_false hv (by rw [e])))
      have SE := Lib.hid S2.bel
      clear hv S2
      go_wp2_with fail
      go_ret
      exact ⟨ret_bool HF.out.symm, SE.out⟩
    | true =>
      have HL := Lib.hid (of_decide_eq_true hv)
      clear hv
      obtain ⟨x3, _⟩ := S2.cell 0 3 rfl
      obtain ⟨x4, _⟩ := S2.cell 0 4 rfl
      obtain ⟨y3, _⟩ := S2.cell 1 3 rfl
      obtain ⟨y4, _⟩ := S2.cell 1 4 rfl
      rw [hbx] at x3 x4 y3 y4
      go_wp2_with fail
      refine (S2.quiet (same22 f.r g.r _ _ w2 (H2.out.kept S2.bel) (H4.out.kept S2.bel))).mono ?_
      rintro e w3 ⟨rfl, z3, S3⟩
      have HV := Lib.hid (show decide (f.r = g.r) = decide (f = g) from decide_eq_decide.2 ⟨fun e => Fc.ext_of HN.out HL.out e, fun e => by rw [e]⟩)
      have SE := Lib.hid S3.bel
      clear S2 S3 x3 x4 y3 y4
      go_wp2_with fail
      go_ret
      exact ⟨ret_bool HV.out, SE.out⟩
  · have hnb : (f.neg == g.neg) = false := by simpa using hn
    have HF := Lib.hid (show decide (f = g) = false from decide_eq_false (fun e => hn (by rw [e])))
    have SE := Lib.hid S.bel
    clear hn S
    go_enter Try.func62, Try.ntmps62
    go_wp2_with fail
    go_ret
    exact ⟨ret_bool HF.out.symm, SE.out⟩

set_option maxRecDepth 100000 in
set_option maxHeartbeats 4000000 in
theorem sameClaim20 (fs gs : List Fc) (p q : Nat → Prop) (ao bo : Option Addr) (ca cb : Nat) (w : World) (h : factE.Row p w ao fs) (h2 : factE.Row q w bo gs) (hn : fs.length ≤ 1000000) (hm : gs.length ≤ 1000000) :
    Calls Try.prog 22 #[.agg #[.slice ao fs.length ca], .agg #[.slice bo gs.length cb]] w fun e w' => e = .returned (.bool (decide (fs = gs))) ∧ Below w.heap.size w w' := by
  have HR := Lib.hid h; have HQ := Lib.hid h2
  obtain ⟨bx, hbx⟩ : ∃ b, b = w.heap.size := ⟨_, rfl⟩
  have S := ((St.start w).box hbx.symm #[.slice ao fs.length ca] 41).box (b := bx + 1) (by simp [hbx]) #[.slice bo gs.length cb] 41
  clear h h2
  by_cases hl : fs.length = gs.length
  · have hne : ((fs.length : Int) != (gs.length : Int)) = false := by simp [hl]
    have HL := Lib.hid hl
    clear hl
    go_enter Try.func22, Try.ntmps22
    go_wp2_with fail
    refine S.genC (z := bx + 2) (by simp [hbx]) ?_
    rw [← hbx]
    intro w1 z1 S1
    clear S hbx
    go_loopw [5] (fun i wr => ∃ k : Nat, k ≤ fs.length ∧ i = .int .i64 k ∧ (∀ (j : Nat) f, j < k → fs[j]? = some f → gs[j]? = some f) ∧ bx + 2 ≤ wr.heap.size ∧ St w wr [.box bx #[.slice ao fs.length ca] 41, .box (bx + 1) #[.slice bo gs.length cb] 41]) (fun i _ => fs.length - (intOf i).toNat)
    case atStart => exact ⟨0, by omega, rfl, fun j f hj _ => by omega, z1, S1⟩
    case round =>
      clear S1
      obtain ⟨k, hk, rfl, hno, z2, S⟩ := hrel
      have HNO := Lib.hid hno
      clear hno
      obtain ⟨x0, _⟩ := S.one 0
      obtain ⟨y0, _⟩ := S.one 1
      by_cases hlt : k < fs.length
      · have hlti : (k : Int) < (fs.length : Int) := by omega
        have hlt2 : k < gs.length := by have := HL.out; omega
        have hlti2 : (k : Int) < (gs.length : Int) := by omega
        obtain ⟨b, off, ka, sa, kb, sb, rfl, _, c0, c1, c2, c3, c4, t1, t2⟩ := (HR.out.kept S.bel).fact hlt
        obtain ⟨b2, off2, ka2, sa2, kb2, sb2, rfl, _, d0, d1, d2, d3, d4, u1, u2⟩ := (HQ.out.kept S.bel).fact hlt2
        have T1 := Lib.hid t1; have T2 := Lib.hid t2; have U1 := Lib.hid u1; have U2 := Lib.hid u2
        have CA := Lib.hid (fun d os => Calls.regrown_of (sameFact67 fs[k] gs[k] ka kb ka2 kb2 sa sb sa2 sb2 (Go.Sort.grow (redrawn wr d) os) (T1.out.at.kept (below_regrown _ d os)) (T2.out.at.kept (below_regrown _ d os)) (U1.out.at.kept (below_regrown _ d os)) (U2.out.at.kept (below_regrown _ d os))))
        have rx := cell_regrown x0; have ry := cell_regrown y0
        have r0 := cell_regrown c0; have r1 := cell_regrown c1; have r2 := cell_regrown c2; have r3 := cell_regrown c3; have r4 := cell_regrown c4
        have e0 := cell_regrown d0; have e1 := cell_regrown d1; have e2 := cell_regrown d2; have e3 := cell_regrown d3; have e4 := cell_regrown d4
        clear t1 t2 u1 u2
        go_wp2_with fail
        refine wp_region_quiet_below (by kernel_rfl) (by kernel_rfl) ?_
        repeat (go_big_quiet_step (exact CA.out _ _))
        refine wpQuiet_nil ?_
        intro _ hw'
        obtain ⟨⟨dq, osq⟩, hw''⟩ := hw'
        subst hw''
        refine (S.regrown dq osq).genX (z := bx + 2) (Nat.le_trans z2 (below_regrown wr dq osq).size) ?_
        intro w2 z3 S2
        clear rx ry r0 r1 r2 r3 r4 e0 e1 e2 e3 e4 CA S x0 y0 c0 c1 c2 c3 c4 d0 d1 d2 d3 d4
        cases hq : decide (fs[k] = gs[k]) with
        | false =>
          have HF := Lib.hid (show decide (fs = gs) = false from decide_eq_false (fun e => of_decide_eq_false hq (by subst e; rfl)))
          have SE := Lib.hid S2.bel
          clear S2 hq
          go_wp2_with fail
          go_ret
          exact ⟨ret_bool HF.out.symm, SE.out⟩
        | true =>
          have HN := Lib.hid (show ∀ (j : Nat) f, j < k + 1 → fs[j]? = some f → gs[j]? = some f from fun j f hj hf => by
            rcases Nat.lt_succ_iff_lt_or_eq.1 hj with h3 | rfl
            · exact HNO.out j f h3 hf
            · rw [List.getElem?_eq_getElem hlt] at hf
              rw [List.getElem?_eq_getElem hlt2, ← of_decide_eq_true hq]; exact hf)
          clear hq
          go_wp2_with fail
          go_roundw
          case rel => exact ⟨k + 1, by omega, by go_num, HN.out, z3, S2⟩
          case measure => simp [intOf] <;> omega
      · obtain rfl : k = fs.length := by omega
        have HF := Lib.hid (show decide (fs = gs) = true from decide_eq_true (List.ext_getElem HL.out (fun j h1 h2 => by
          have := HNO.out j fs[j] h1 (List.getElem?_eq_getElem h1)
          rw [List.getElem?_eq_getElem h2] at this
          exact (Option.some.inj this).symm)))
        have SE := Lib.hid S.bel
        clear S
        go_wp2_with fail
        go_ret
        exact ⟨ret_bool HF.out.symm, SE.out⟩
  · have hne : ((fs.length : Int) != (gs.length : Int)) = true := by simp; omega
    have E0 := Lib.hid (show decide (fs = gs) = false from decide_eq_false (fun e => hl (by rw [e])))
    have SE := Lib.hid S.bel
    clear hl S
    go_enter Try.func22, Try.ntmps22
    go_wp2_with fail
    go_ret
    exact ⟨ret_bool E0.out.symm, SE.out⟩
end Go.Proofs.Ytlhnfdjidjgfgaa
namespace Go.Proofs.Ytlhnfdjidjgfgaa
open Go.RowKit Go.Shelf
set_option linter.unusedVariables false
set_option maxHeartbeats 400000

def bigT (t : T) : Bool := decide ((200 : Int) < t.size)
def vastC (c : List Fc) : Bool := decide (40 < (treesF c).length) || (treesF c).any bigT
def vastL (na : Nat) (cs : List (List Fc)) : Bool := decide (80 < cs.length) || decide (40 < na) || cs.any vastC
theorem any_take {α : Type} {p : α → Bool} {l : List α} {k : Nat} {x : α} (hx : l[k]? = some x) (h : p x = true) : l.any p = true := List.any_eq_true.2 ⟨x, List.mem_of_getElem? hx, h⟩
theorem any_none {α : Type} {p : α → Bool} {l : List α} (h : ∀ (j : Nat) x, j < l.length → l[j]? = some x → p x = false) : l.any p = false := by
  rw [List.any_eq_false]
  intro x hx
  obtain ⟨j, hj, rfl⟩ := List.getElem_of_mem hx
  rw [h j _ hj (List.getElem?_eq_getElem hj)]; simp
theorem no_step {α : Type} {p : α → Bool} {l : List α} {k : Nat} (hk : k < l.length) (h : ∀ (j : Nat) x, j < k → l[j]? = some x → p x = false) (h2 : p l[k] = false) : ∀ (j : Nat) x, j < k + 1 → l[j]? = some x → p x = false := fun j x hj hx => by
  rcases Nat.lt_succ_iff_lt_or_eq.1 hj with h3 | rfl
  · exact h j x h3 hx
  · rw [List.getElem?_eq_getElem hk] at hx
    obtain rfl := Option.some.inj hx
    exact h2
theorem Elt.Row.claim {p : Nat → Prop} {w : World} {ao : Option Addr} {cs : List (List Fc)} (h : claimE.Row p w ao cs) {i : Nat} (hi : i < cs.length) : ∃ b off k sp, ao = some ⟨b, off, none⟩ ∧ p b ∧
    w.cell? ⟨b, off + i, none⟩ = some (.slice k cs[i].length (cs[i].length + sp)) ∧ factE.Row p w k cs[i] ∧ cs[i].length ≤ maxLen := by
  obtain ⟨b, off, c, e, hp, hc, k, sp, rfl, h1, h2⟩ := h i cs[i] (List.getElem?_eq_getElem hi)
  exact ⟨b, off, k, sp, e, hp, by have := hc 0 _ rfl; simpa [claimE] using this, h1, h2⟩

set_option maxRecDepth 100000 in
set_option maxHeartbeats 4000000 in
theorem vastLore15 (na : Nat) (cs : List (List Fc)) (p : Nat → Prop) (aa co : Option Addr) (ca cc : Nat) (w : World) (h : claimE.Row p w co cs) (hp : ∀ b, p b → b < w.heap.size) (hna : na ≤ 1000000) (hn : cs.length ≤ 1000000)
    (hf : ∀ (i : Nat) c, cs[i]? = some c → c.length ≤ 1000000) (hs : ∀ (i : Nat) c, cs[i]? = some c → ∀ (j : Nat) t, (treesF c)[j]? = some t → t.size ≤ 2000000) :
    Calls Try.prog 15 #[.agg #[.slice aa na ca, .slice co cs.length cc]] w fun e w' => e = .returned (.bool (vastL na cs)) ∧ Below w.heap.size w w' := by
  have HR := Lib.hid h; have HP := Lib.hid hp; have HS := Lib.hid hs; have HF := Lib.hid hf
  obtain ⟨bx, hbx⟩ : ∃ b, b = w.heap.size := ⟨_, rfl⟩
  have S := (St.start w).box hbx.symm #[.slice aa na ca, .slice co cs.length cc] 25
  have HBX := Lib.hid hbx
  have hsz : (w.alloc (.cells #[.slice aa na ca, .slice co cs.length cc] 25)).heap.size = bx + 1 := by simp [hbx]
  clear h hp hs hf
  by_cases h8 : 80 < cs.length
  · have HV := Lib.hid (show vastL na cs = true by unfold vastL; rw [decide_eq_true h8]; rfl)
    have SE := Lib.hid S.bel
    have h8i : (80 : Int) < (cs.length : Int) := by omega
    clear S h8
    go_enter Try.func15, Try.ntmps15
    go_wp2_with fail
    go_ret
    exact ⟨ret_bool HV.out.symm, SE.out⟩
  by_cases h4 : 40 < na
  · have HV := Lib.hid (show vastL na cs = true by unfold vastL; rw [decide_eq_true h4]; simp)
    have SE := Lib.hid S.bel
    have h8i : ¬ (80 : Int) < (cs.length : Int) := by omega
    have h4i : (40 : Int) < (na : Int) := by omega
    clear S h8 h4
    go_enter Try.func15, Try.ntmps15
    go_wp2_with fail
    go_ret
    exact ⟨ret_bool HV.out.symm, SE.out⟩
  have HV := Lib.hid (show vastL na cs = cs.any vastC by unfold vastL; rw [decide_eq_false h4, decide_eq_false h8]; rfl)
  have h8i : ¬ (80 : Int) < (cs.length : Int) := by omega
  have h4i : ¬ (40 : Int) < (na : Int) := by omega
  clear h8 h4
  go_enter Try.func15, Try.ntmps15
  go_wp2_with fail
  rw [← hbx]
  generalize w.alloc (.cells #[.slice aa na ca, .slice co cs.length cc] 25) = w0 at S hsz ⊢
  clear hbx
  go_loopw [3] (fun i wr => ∃ k : Nat, k ≤ cs.length ∧ i = .int .i64 k ∧ (∀ (j : Nat) c, j < k → cs[j]? = some c → vastC c = false) ∧ bx + 1 ≤ wr.heap.size ∧ St w wr [.box bx #[.slice aa na ca, .slice co cs.length cc] 25]) (fun i _ => cs.length - (intOf i).toNat)
  case atStart => exact ⟨0, by omega, rfl, fun j t hj _ => by omega, by omega, S⟩
  case round =>
    clear S
    obtain ⟨k, hk, rfl, hno, z1, S⟩ := hrel
    have HNO := Lib.hid hno
    clear hno
    by_cases hlt : k < cs.length
    · have hlti : (k : Int) < (cs.length : Int) := by omega
      obtain ⟨b, off, ka, sa, rfl, hpb, c0, hfr, hml⟩ := (HR.out.kept S.bel).claim hlt
      obtain ⟨⟨x0, _⟩, x1, _⟩ := S.two 0
      have HFR := Lib.hid hfr
      obtain ⟨c, hc⟩ : ∃ c, c = cs[k] := ⟨_, rfl⟩
      rw [← hc] at HFR c0
      have hck : cs[k]? = some c := by rw [hc]; exact List.getElem?_eq_getElem hlt
      have hT : (treesF c).length ≤ 2000000 := by rw [treesF_length]; have := HF.out k c hck; omega
      have HCK := Lib.hid hck; have HC := Lib.hid hc
      clear hfr hml hc hck
      go_wp2_with fail
      refine (S.trees (trees64 c p ka sa wr HFR.out (HF.out k c HCK.out) (fun b hb => by have := HP.out b hb; have := HBX.out; omega))).mono ?_
      rintro e w2 ⟨ro, rsp, rfl, z2, S2⟩
      clear S x0 x1 c0
      by_cases h40 : 40 < (treesF c).length
      · have HVT := Lib.hid (show vastL na cs = true by rw [HV.out]; exact any_take HCK.out (by unfold vastC; rw [decide_eq_true h40]; rfl))
        have h40i : (40 : Int) < ((treesF c).length : Int) := by omega
        have SE := Lib.hid S2.bel
        clear S2 h40
        go_wp2_with fail
        go_ret
        exact ⟨ret_bool HVT.out.symm, SE.out⟩
      · have h40i : ¬ (40 : Int) < ((treesF c).length : Int) := by omega
        have HVC := Lib.hid (show vastC c = (treesF c).any bigT by unfold vastC; rw [decide_eq_false h40]; rfl)
        clear h40
        go_wp2_with fail
        go_loopw [5] (fun i wr2 => ∃ m : Nat, m ≤ (treesF c).length ∧ i = .int .i64 m ∧ (∀ (j : Nat) t, j < m → (treesF c)[j]? = some t → bigT t = false) ∧ bx + 1 ≤ wr2.heap.size ∧ St w wr2 [.box bx #[.slice aa na ca, .slice (some ⟨b, off, none⟩) cs.length cc] 25, .rowE treeE (fun b => p b ∨ wr.heap.size ≤ b) ro (treesF c)]) (fun i _ => (treesF c).length - (intOf i).toNat)
        case atStart => exact ⟨0, by omega, rfl, fun j t hj _ => by omega, by omega, S2⟩
        case round =>
          clear S2
          obtain ⟨m, hm, rfl, hno, z3, S⟩ := hrel
          have HNM := Lib.hid hno
          clear hno
          by_cases hlt2 : m < (treesF c).length
          · have hlti2 : (m : Int) < ((treesF c).length : Int) := by omega
            obtain ⟨b2, off2, ka2, sa2, rfl, hpb2, d0, d1, ht⟩ := (S.rowE treeE 1).tree hlt2
            have HT := Lib.hid ht
            clear ht
            go_wp2_with fail
            refine (S.quiet (vast15 (treesF c)[m] _ _ (by have := HS.out k c HCK.out m _ (List.getElem?_eq_getElem hlt2); omega) HT.out.at)).mono ?_
            rintro e w3 ⟨rfl, z4, S3⟩
            clear S d0 d1
            cases hv : decide ((200 : Int) < (treesF c)[m].size) with
            | true =>
              have HVT := Lib.hid (show vastL na cs = true by rw [HV.out]; exact any_take HCK.out (by rw [HVC.out]; exact any_take (List.getElem?_eq_getElem hlt2) hv))
              have SE := Lib.hid S3.bel
              clear S3 hv
              go_wp2_with fail
              go_ret
              exact ⟨ret_bool HVT.out.symm, SE.out⟩
            | false =>
              have HN2 := Lib.hid (no_step hlt2 HNM.out hv)
              clear hv
              go_wp2_with fail
              go_roundw
              case rel => exact ⟨m + 1, by omega, by go_num, HN2.out, by omega, S3⟩
              case measure => simp [intOf] <;> omega
          · obtain rfl : m = (treesF c).length := by omega
            have HN2 := Lib.hid (no_step hlt HNO.out (by rw [← HC.out, HVC.out]; exact any_none HNM.out))
            have S4 := S.pick [0]
            clear S
            go_wp2_with fail
            go_roundw
            case rel => exact ⟨k + 1, by omega, by go_num, HN2.out, by omega, S4⟩
            case measure => simp [intOf] <;> omega
    · obtain rfl : k = cs.length := by omega
      have HVT := Lib.hid (show vastL na cs = false by rw [HV.out]; exact any_none HNO.out)
      have SE := Lib.hid S.bel
      obtain ⟨_, x1, _⟩ := S.two 0
      clear S
      go_wp2_with fail
      go_ret
      exact ⟨ret_bool HVT.out.symm, SE.out⟩
end Go.Proofs.Ytlhnfdjidjgfgaa
namespace Go.Proofs.Ytlhnfdjidjgfgaa
open Go.RowKit Go.Shelf
set_option linter.unusedVariables false
set_option maxHeartbeats 400000

set_option maxRecDepth 100000 in
set_option maxHeartbeats 4000000 in
theorem sameFact129 (f g : Fc) (k k2 j j2 : Option Addr) (sp sp2 sq sq2 : Nat) (w : World) (h1 : TreeAt w (.agg #[.int .i64 f.l.head, .slice k f.l.kids.length (f.l.kids.length + sp)]) f.l) (h2 : TreeAt w (.agg #[.int .i64 f.r.head, .slice k2 f.r.kids.length (f.r.kids.length + sp2)]) f.r)
    (h3 : TreeAt w (.agg #[.int .i64 g.l.head, .slice j g.l.kids.length (g.l.kids.length + sq)]) g.l) (h4 : TreeAt w (.agg #[.int .i64 g.r.head, .slice j2 g.r.kids.length (g.r.kids.length + sq2)]) g.r) :
    Calls Try.prog 129 #[.agg #[.bool f.neg, .int .i64 f.l.head, .slice k f.l.kids.length (f.l.kids.length + sp), .int .i64 f.r.head, .slice k2 f.r.kids.length (f.r.kids.length + sp2)],
      .agg #[.bool g.neg, .int .i64 g.l.head, .slice j g.l.kids.length (g.l.kids.length + sq), .int .i64 g.r.head, .slice j2 g.r.kids.length (g.r.kids.length + sq2)]] w fun e w' => e = .returned (.bool (decide (f = g))) ∧ Below w.heap.size w w' := by
  have H1 := Lib.hid h1; have H2 := Lib.hid h2; have H3 := Lib.hid h3; have H4 := Lib.hid h4
  clear h1 h2 h3 h4
  obtain ⟨bx, hbx⟩ : ∃ b, b = w.heap.size := ⟨_, rfl⟩
  have S := ((St.start w).box hbx.symm #[.bool f.neg, .int .i64 f.l.head, .slice k f.l.kids.length (f.l.kids.length + sp), .int .i64 f.r.head, .slice k2 f.r.kids.length (f.r.kids.length + sp2)] 62).box (b := bx + 1) (by simp [hbx]) #[.bool g.neg, .int .i64 g.l.head, .slice j g.l.kids.length (g.l.kids.length + sq), .int .i64 g.r.head, .slice j2 g.r.kids.length (g.r.kids.length + sq2)] 62
  by_cases hn : f.neg = g.neg
  · have hnb : (f.neg == g.neg) = true := by simp [hn]
    have HN := Lib.hid hn
    clear hn
    go_enter Try.func129, Try.ntmps129
    go_wp2_with fail
    refine S.gen (z := bx + 2) (by simp [hbx]) ?_
    intro w1 z1 S1
    clear S
    refine (S1.quiet (same68 f.l g.l _ _ w1 (H1.out.kept S1.bel) (H3.out.kept S1.bel))).mono ?_
    rintro e w2 ⟨rfl, z2, S2⟩
    clear S1
    cases hv : decide (f.l = g.l) with
    | false =>
      have HF := Lib.hid (show decide (f = g) = false from decide_eq_false (fun e => of_decide_eq_false hv (by rw [e])))
      have SE := Lib.hid S2.bel
      clear hv S2
      go_wp2_with fail
      go_ret
      exact ⟨ret_bool HF.out.symm, SE.out⟩
    | true =>
      have HL := Lib.hid (of_decide_eq_true hv)
      clear hv
      obtain ⟨x3, _⟩ := S2.cell 0 3 rfl
      obtain ⟨x4, _⟩ := S2.cell 0 4 rfl
      obtain ⟨y3, _⟩ := S2.cell 1 3 rfl
      obtain ⟨y4, _⟩ := S2.cell 1 4 rfl
      rw [hbx] at x3 x4 y3 y4
      go_wp2_with fail
      refine (S2.quiet (same68 f.r g.r _ _ w2 (H2.out.kept S2.bel) (H4.out.kept S2.bel))).mono ?_
      rintro e w3 ⟨rfl, z3, S3⟩
      have HV := Lib.hid (show decide (f.r = g.r) = decide (f = g) from decide_eq_decide.2 ⟨fun e => Fc.ext_of HN.out HL.out e, fun e => by rw [e]⟩)
      have SE := Lib.hid S3.bel
      clear S2 S3 x3 x4 y3 y4
      go_wp2_with fail
      go_ret
      exact ⟨ret_bool HV.out, SE.out⟩
  · have hnb : (f.neg == g.neg) = false := by simpa using hn
    have HF := Lib.hid (show decide (f = g) = false from decide_eq_false (fun e => hn (by rw [e])))
    have SE := Lib.hid S.bel
    clear hn S
    go_enter Try.func129, Try.ntmps129
    go_wp2_with fail
    go_ret
    exact ⟨ret_bool HF.out.symm, SE.out⟩

theorem boxF5' {w : World} {b : Nat} {v0 v1 v2 v3 v4 : Value} {T : TypeId} (h : w.heap[b]? = some (.cells #[v0, v1, v2, v3, v4] T (0, 0))) :
    w.cell? ⟨b, 0, none⟩ = some v0 ∧ w.cell? ⟨b, 1, none⟩ = some v1 ∧ w.cell? ⟨b, 2, none⟩ = some v2 ∧ w.cell? ⟨b, 3, none⟩ = some v3 ∧ w.cell? ⟨b, 4, none⟩ = some v4 := by
  simp [World.cell?, h]
set_option maxRecDepth 100000 in
set_option maxHeartbeats 4000000 in
/-- is it this fact? -/
theorem once143 (x f : Fc) (k k2 j j2 : Option Addr) (sp sp2 sq sq2 bf : Nat) (w : World) (h1 : TreeAt w (.agg #[.int .i64 x.l.head, .slice k x.l.kids.length (x.l.kids.length + sp)]) x.l) (h2 : TreeAt w (.agg #[.int .i64 x.r.head, .slice k2 x.r.kids.length (x.r.kids.length + sp2)]) x.r)
    (h3 : TreeAt w (.agg #[.int .i64 f.l.head, .slice j f.l.kids.length (f.l.kids.length + sq)]) f.l) (h4 : TreeAt w (.agg #[.int .i64 f.r.head, .slice j2 f.r.kids.length (f.r.kids.length + sq2)]) f.r)
    (hb : w.heap[bf]? = some (.cells #[.bool f.neg, .int .i64 f.l.head, .slice j f.l.kids.length (f.l.kids.length + sq), .int .i64 f.r.head, .slice j2 f.r.kids.length (f.r.kids.length + sq2)] 62 (0, 0))) :
    Calls Try.prog 143 #[.agg #[.bool x.neg, .int .i64 x.l.head, .slice k x.l.kids.length (x.l.kids.length + sp), .int .i64 x.r.head, .slice k2 x.r.kids.length (x.r.kids.length + sp2)], .pointer (some ⟨bf, 0, none⟩)] w fun e w' => e = .returned (.bool (decide (x = f))) ∧ Below w.heap.size w w' := by
  have H1 := Lib.hid h1; have H2 := Lib.hid h2; have H3 := Lib.hid h3; have H4 := Lib.hid h4
  obtain ⟨bx, hbx⟩ : ∃ b, b = w.heap.size := ⟨_, rfl⟩
  have S := (St.start w).box hbx.symm #[.bool x.neg, .int .i64 x.l.head, .slice k x.l.kids.length (x.l.kids.length + sp), .int .i64 x.r.head, .slice k2 x.r.kids.length (x.r.kids.length + sp2)] 62
  have hb' := (Below.block ((Below.refl w.heap.size w).alloc (Nat.le_refl _) (.cells #[.bool x.neg, .int .i64 x.l.head, .slice k x.l.kids.length (x.l.kids.length + sp), .int .i64 x.r.head, .slice k2 x.r.kids.length (x.r.kids.length + sp2)] 62)) _ (heap_lt hb)).trans hb
  obtain ⟨y0, y1, y2, y3, y4⟩ := boxF5' hb'
  clear h1 h2 h3 h4 hb hb'
  go_enter Try.func143, Try.ntmps143
  go_wp2_with fail
  refine S.gen (z := bx + 1) (by simp [hbx]) ?_
  intro w1 z1 S1
  clear S y0 y1 y2 y3 y4
  refine (S1.quiet (sameFact129 x f k k2 j j2 sp sp2 sq sq2 w1 (H1.out.kept S1.bel) (H2.out.kept S1.bel) (H3.out.kept S1.bel) (H4.out.kept S1.bel))).mono ?_
  rintro e w2 ⟨rfl, z2, S2⟩
  have SE := Lib.hid S2.bel
  clear S1 S2
  go_wp2_with fail
  go_ret
  exact ⟨rfl, SE.out⟩
end Go.Proofs.Ytlhnfdjidjgfgaa
namespace Go.Proofs.Ytlhnfdjidjgfgaa
open Go.RowKit Go.Shelf
set_option linter.unusedVariables false
set_option maxHeartbeats 400000

set_option maxRecDepth 100000 in
set_option maxHeartbeats 4000000 in
theorem equalFunc128 (fs gs : List Fc) (p q : Nat → Prop) (ao bo : Option Addr) (ca cb : Nat) (w : World) (h : factE.Row p w ao fs) (h2 : factE.Row q w bo gs) (hn : fs.length ≤ 1000000) (hm : gs.length ≤ 1000000) :
    Calls Try.prog 128 #[.slice ao fs.length ca, .slice bo gs.length cb, .func (.func 129) #[] #[]] w fun e w' => e = .returned (.bool (decide (fs = gs))) ∧ Below w.heap.size w w' := by
  have HR := Lib.hid h; have HQ := Lib.hid h2
  clear h h2
  by_cases hl : fs.length = gs.length
  · have hne : ((fs.length : Int) != (gs.length : Int)) = false := by simp [hl]
    have HL := Lib.hid hl
    clear hl
    go_enter Try.func128, Try.ntmps128
    go_wp2_with fail
    go_loopw [7, 8, 9, 17] (fun _ _ _ i wr => ∃ k : Nat, k ≤ fs.length ∧ i = .int .i64 k ∧ Hid (∀ (j : Nat) f, j < k → fs[j]? = some f → gs[j]? = some f) ∧ Below w.heap.size w wr) (fun _ _ _ i _ => fs.length - (intOf i).toNat)
    case atStart => exact ⟨0, by omega, rfl, Lib.hid (fun j f hj _ => by omega), Below.refl _ _⟩
    case round =>
      obtain ⟨k, hk, rfl, HNO, hb⟩ := hrel
      by_cases hlt : k < fs.length
      · have hlti : (k : Int) < (fs.length : Int) := by omega
        have hlt2 : k < gs.length := by have := HL.out; omega
        have hlti2 : (k : Int) < (gs.length : Int) := by omega
        obtain ⟨b, off, ka, sa, kb, sb, rfl, _, c0, c1, c2, c3, c4, t1, t2⟩ := (HR.out.kept hb).fact hlt
        obtain ⟨b2, off2, ka2, sa2, kb2, sb2, rfl, _, d0, d1, d2, d3, d4, u1, u2⟩ := (HQ.out.kept hb).fact hlt2
        have T1 := Lib.hid t1; have T2 := Lib.hid t2; have U1 := Lib.hid u1; have U2 := Lib.hid u2
        obtain ⟨F, hF⟩ : ∃ z, z = fs[k] := ⟨_, rfl⟩
        obtain ⟨G, hG⟩ : ∃ z, z = gs[k] := ⟨_, rfl⟩
        have HFk := Lib.hid (show fs[k]? = some F by rw [hF]; exact List.getElem?_eq_getElem hlt)
        have HGk := Lib.hid (show gs[k]? = some G by rw [hG]; exact List.getElem?_eq_getElem hlt2)
        rw [← hF] at c0 c1 c2 c3 c4 T1 T2
        rw [← hG] at d0 d1 d2 d3 d4 U1 U2
        have S := ((St.start wr).box rfl #[.bool F.neg, .int .i64 F.l.head, .slice ka F.l.kids.length (F.l.kids.length + sa), .int .i64 F.r.head, .slice kb F.r.kids.length (F.r.kids.length + sb)] 62).box (b := wr.heap.size + 1) (by simp) #[.bool G.neg, .int .i64 G.l.head, .slice ka2 G.l.kids.length (G.l.kids.length + sa2), .int .i64 G.r.head, .slice kb2 G.r.kids.length (G.r.kids.length + sb2)] 62
        have hlb2 : b2 < wr.heap.size := block_lt_of_cell d1
        have hlb1 : b < wr.heap.size := block_lt_of_cell c1
        clear t1 t2 u1 u2 hF hG
        go_wp2_with fail
        refine St.gen S (z := wr.heap.size) (by simp; omega) ?_
        intro w1 z1 S1
        refine (S1.quiet (sameFact129 F G ka kb ka2 kb2 sa sb sa2 sb2 w1 (T1.out.at.kept S1.bel) (T2.out.at.kept S1.bel) (U1.out.at.kept S1.bel) (U2.out.at.kept S1.bel))).mono ?_
        rintro e w2 ⟨rfl, z2, S2⟩
        have hbq := Below.step hb S2.bel
        clear S S1 S2 c0 c1 c2 c3 c4 d0 d1 d2 d3 d4
        cases hq : decide (F = G) with
        | false =>
          have HF := Lib.hid (show decide (fs = gs) = false from decide_eq_false (fun e => of_decide_eq_false hq (by have h1 := HFk.out; have h2 := HGk.out; rw [e, h2] at h1; exact (Option.some.inj h1).symm)))
          clear hq
          go_wp2_with fail
          go_ret
          exact ⟨ret_bool HF.out.symm, hbq⟩
        | true =>
          have HN := Lib.hid (show ∀ (j : Nat) f, j < k + 1 → fs[j]? = some f → gs[j]? = some f from fun j f hj hf => by
            rcases Nat.lt_succ_iff_lt_or_eq.1 hj with h3 | rfl
            · exact HNO.out j f h3 hf
            · rw [HGk.out, ← of_decide_eq_true hq, ← HFk.out]; exact hf)
          clear hq
          go_wp2_with fail
          go_roundw
          case rel => exact ⟨k + 1, by omega, by go_num, HN, hbq⟩
          case measure => simp [intOf] <;> omega
      · obtain rfl : k = fs.length := by omega
        have HF := Lib.hid (show decide (fs = gs) = true from decide_eq_true (List.ext_getElem HL.out (fun j h1 h2 => by
          have := HNO.out j fs[j] h1 (List.getElem?_eq_getElem h1)
          rw [List.getElem?_eq_getElem h2] at this
          exact (Option.some.inj this).symm)))
        go_wp2_with fail
        go_ret
        exact ⟨ret_bool HF.out.symm, hb⟩
  · have hne : ((fs.length : Int) != (gs.length : Int)) = true := by simp; omega
    have E0 := Lib.hid (show decide (fs = gs) = false from decide_eq_false (fun e => hl (by rw [e])))
    clear hl
    go_enter Try.func128, Try.ntmps128
    go_wp2_with fail
    go_ret
    exact ⟨ret_bool E0.out.symm, Below.refl _ _⟩
set_option maxRecDepth 100000 in
theorem claimSame79 (fs gs : List Fc) (p q : Nat → Prop) (ao bo : Option Addr) (ca cb : Nat) (w : World) (h : factE.Row p w ao fs) (h2 : factE.Row q w bo gs) (hn : fs.length ≤ 1000000) (hm : gs.length ≤ 1000000) :
    Calls Try.prog 79 #[.agg #[.slice ao fs.length ca], .agg #[.slice bo gs.length cb]] w fun e w' => e = .returned (.bool (decide (fs = gs))) ∧ Below w.heap.size w w' := by
  have S := ((St.start w).box rfl #[.slice ao fs.length ca] 41).box (b := w.heap.size + 1) (by simp) #[.slice bo gs.length cb] 41
  have HS := Lib.hid S.bel
  have HE := Lib.hid (fun W (hb : Below w.heap.size w W) => equalFunc128 fs gs p q ao bo ca cb W (h.kept hb) (h2.kept hb) hn hm)
  clear h h2 S
  go_enter Try.func79, Try.ntmps79
  go_wp2_with fail
  refine (HE.out _ HS.out).mono ?_
  rintro e w2 ⟨rfl, hb2⟩
  have HB := Lib.hid (Below.step HS.out hb2)
  clear hb2
  go_wp2_with fail
  go_ret
  exact ⟨rfl, HB.out⟩
end Go.Proofs.Ytlhnfdjidjgfgaa
namespace Go.Proofs.Ytlhnfdjidjgfgaa
open Go.RowKit Go.Shelf
set_option linter.unusedVariables false
set_option maxHeartbeats 400000

def gCl (cs : List (List Fc)) (i : Nat) : List Fc := cs.getD i []
theorem gCl_get {cs : List (List Fc)} {i : Nat} (h : i < cs.length) : gCl cs i = cs[i] := by simp [gCl, List.getD_eq_getElem?_getD, h]
theorem indexFunc117 (fn : Nat) (cap : Array Value) (eg : ∀ args w, (callFunc fn args).run Try.prog w = .ok (.enter fn args) w)
    (q : Nat → Prop) (ao : Option Addr) (ks : List (List Fc)) (n cp : Nat) (hn0 : ks.length = n) (p : Nat → Bool) (w : World) (hn : n ≤ 9223372036854775807) (hc : claimE.Row q w ao ks)
    (hf : ∀ i w1 k sp, i < n → Below w.heap.size w w1 → factE.Row q w1 k (gCl ks i) → Calls Try.prog fn (#[.agg #[.slice k (gCl ks i).length ((gCl ks i).length + sp)]] ++ cap) w1 fun e w2 => e = .returned (.bool (p i)) ∧ Below w1.heap.size w1 w2) :
    Calls Try.prog 117 #[.slice ao n cp, .func (.func fn) #[] cap] w fun e w' => e = .returned (.int .i64 (firstZ p n)) ∧ Below w.heap.size w w' := by
  have HF := Lib.hid hf
  have HC := Lib.hid hc
  clear hf hc
  go_enter Try.func117, Try.ntmps117
  go_wp2
  go_loopw [5, 8] (fun _ i wr => ∃ k : Nat, k ≤ n ∧ i = .int .i64 k ∧ (∀ j, j < k → p j = false) ∧ Below w.heap.size w wr) (fun _ i _ => n - (intOf i).toNat)
  case atStart => exact ⟨0, Nat.zero_le _, rfl, by simp, Below.refl _ _⟩
  case round =>
    obtain ⟨k, hk, rfl, hno, hbel⟩ := hrel
    have HN := Lib.hid hno
    clear hno
    by_cases hlt : k < n
    · obtain ⟨b, off, ko, ksp, rfl, _, c1, hr, hml⟩ := (HC.out.kept hbel).claim (i := k) (by omega)
      clear hml
      have HG := Lib.hid (HF.out k)
      rw [gCl_get (by omega)] at HG
      have HRR := Lib.hid hr
      generalize ks[k] = x at HG c1 HRR
      clear hn0 hr
      go_wp2_with fail
      refine (HG.out _ ko ksp hlt hbel HRR.out).mono ?_
      rintro e w1 ⟨rfl, hb1⟩
      have hbel1 := Below.step hbel hb1
      cases hp : p k with
      | true =>
        have HP := Lib.hid hp; clear hp
        go_wp2
        go_ret
        exact ⟨ret_int (firstZ_hit hlt HN.out HP.out).symm, hbel1⟩
      | false =>
        have HP := Lib.hid hp; clear hp
        go_wp2
        go_roundw
        case rel => exact ⟨k + 1, by omega, by go_num, fun j hj => (by rcases Nat.lt_succ_iff_lt_or_eq.1 hj with h | rfl; exact HN.out j h; exact HP.out), hbel1⟩
        case measure => simp [intOf] <;> omega
    · clear hn0
      go_wp2
      go_ret
      exact ⟨ret_int (firstZ_none (fun j hj => HN.out j (by omega))).symm, hbel⟩
set_option maxRecDepth 100000 in
theorem containsFunc77 (fn : Nat) (cap : Array Value) (eg : ∀ args w, (callFunc fn args).run Try.prog w = .ok (.enter fn args) w)
    (q : Nat → Prop) (ao : Option Addr) (ks : List (List Fc)) (n cp : Nat) (hn0 : ks.length = n) (p : Nat → Bool) (w : World) (hn : n ≤ 9223372036854775807) (hc : claimE.Row q w ao ks)
    (hf : ∀ i w1 k sp, i < n → Below w.heap.size w w1 → factE.Row q w1 k (gCl ks i) → Calls Try.prog fn (#[.agg #[.slice k (gCl ks i).length ((gCl ks i).length + sp)]] ++ cap) w1 fun e w2 => e = .returned (.bool (p i)) ∧ Below w1.heap.size w1 w2) :
    Calls Try.prog 77 #[.slice ao n cp, .func (.func fn) #[] cap] w fun e w' => e = .returned (.bool (anyB p n)) ∧ Below w.heap.size w w' := by
  have H := Lib.hid (indexFunc117 fn cap eg q ao ks n cp hn0 p w hn hc hf)
  clear hc hf hn0
  go_enter Try.func77, Try.ntmps77
  go_wp2_with fail
  refine H.out.mono ?_
  rintro e w1 ⟨rfl, hb1⟩
  go_wp2
  go_ret
  refine ⟨ret_bool ?_, hb1⟩
  rw [Bool.eq_iff_iff]
  simp only [decide_eq_true_eq]
  exact firstZ_nonneg
set_option maxRecDepth 100000 in
theorem sameIt78 (x y : List Fc) (p q : Nat → Prop) (bt : Nat) (k ao : Option Addr) (sp ca : Nat) (w : World) (h0 : w.cell? ⟨bt, 0, none⟩ = some (.slice ao x.length ca)) (h : factE.Row p w ao x) (h2 : factE.Row q w k y) (hn : x.length ≤ 1000000) (hm : y.length ≤ 1000000) :
    Calls Try.prog 78 #[.agg #[.slice k y.length (y.length + sp)], .pointer (some ⟨bt, 0, none⟩)] w fun e w' => e = .returned (.bool (decide (x = y))) ∧ Below w.heap.size w w' := by
  have hb0 := (Below.refl w.heap.size w).alloc (Nat.le_refl _) (.cells #[.slice k y.length (y.length + sp)] 41)
  have HB0 := Lib.hid hb0
  have c0 := Below.cellOf hb0 h0
  have HE := Lib.hid (claimSame79 x y p q ao k ca (y.length + sp) _ (h.kept hb0) (h2.kept hb0) hn hm)
  clear hb0 h h2 h0
  go_enter Try.func78, Try.ntmps78
  go_wp2_with fail
  refine HE.out.mono ?_
  rintro e w2 ⟨rfl, hb2⟩
  have HB := Lib.hid (Below.step HB0.out hb2)
  clear hb2
  go_wp2_with fail
  go_ret
  exact ⟨rfl, HB.out⟩
end Go.Proofs.Ytlhnfdjidjgfgaa
