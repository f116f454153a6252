/-
  The document's Norm of a claim, plain; small lemmas for its walk.
  A region that draws its order, walked in one order: a condition on the world holds behind each operation but one, the store at the end, which waits for all that rely on it; no program is named here.
  Walks: claim.Map with any function.
-/
import Derived.Test.YtlhnfdjidjgfgaaProg
import Derived.Test.YtlhnfdjidjgfgaaE7
import Derived.OrdersHeld
import Derived.RegionTactic
import Derived.WalkKit
import Derived.Test.YtlhnfdjidjgfgaaF1
import Derived.Deep.RegionLaw
namespace Go.Proofs.Ytlhnfdjidjgfgaa
open Go.RowKit Go.Shelf
set_option linter.unusedVariables false
set_option maxHeartbeats 400000

def reFc (l : List Int) (f : Fc) : Fc := ⟨f.neg, f.l.renum l, f.r.renum l⟩
def normF (fs : List Fc) : List Fc := fs.map (reFc (orderL (treesF fs) []))
theorem info54 : (Try.prog.info? 62).map (fun i => (i.zero, i.size, i.bytes)) = some (some (.agg #[.bool false, .int .i64 0, .slice none 0 0, .int .i64 0, .slice none 0 0]), 5, 72) := by kernel_rfl
theorem map_take {α β : Type} (g : α → β) {fs : List α} {k : Nat} (h : k < fs.length) : (fs.take (k + 1)).map g = (fs.take k).map g ++ [g fs[k]] := by
  rw [List.take_succ_eq_append_getElem h, List.map_append]; rfl
theorem sizeL_le_of : ∀ {ts : List T} {N : Nat}, (∀ (i : Nat) t, ts[i]? = some t → t.size ≤ N) → sizeL ts ≤ ts.length * N
  | [], N, _ => by simp [sizeL]
  | t :: r, N, h => by
    have h1 := h 0 t rfl
    have h2 := sizeL_le_of (ts := r) (N := N) (fun i t ht => h (i + 1) t (by simpa using ht))
    simp only [sizeL, List.length_cons, Nat.succ_mul]; omega

theorem treesF_at : ∀ {fs : List Fc} {k : Nat} (h : k < fs.length), (treesF fs)[2 * k]? = some fs[k].l ∧ (treesF fs)[2 * k + 1]? = some fs[k].r
  | f :: r, 0, _ => ⟨rfl, rfl⟩
  | f :: r, k + 1, h => by
    have := treesF_at (fs := r) (k := k) (by simpa using h)
    rw [show 2 * (k + 1) = 2 * k + 1 + 1 by omega]
    simp only [treesF, List.getElem?_cons_succ, List.getElem_cons_succ]
    exact this

theorem ret_box1 {P : Program} {fn : Func} {R : Ending → World → Prop} {a : Act} {w : World} (x : Value) (b : Nat) (T : TypeId) (hb : w.heap[b]? = some (.cells #[x] T (0, 0)))
    (hres : ∀ w' : World, w'.cell? ⟨b, 0, none⟩ = some x → (results fn a.tmps).run P w' = .ok (.agg #[x]) w') (hd : a.defers = [])
    (hR : R (.returned (.agg #[x])) w) : bodyPost P fn R .ret a w := bodyPost_ret (hres w (box1 hb).1) hd hR

end Go.Proofs.Ytlhnfdjidjgfgaa
namespace Go.Proofs.Ytlhnfdjidjgfgaa
open Go.RowKit
set_option linter.unusedVariables false

section
variable {P : Program} {ops : Array Oper} {Q : Exit → Act → World → Prop} {md : Region.Mode} {S : World → Prop} {st : Nat}

/-- whatever order is picked, the rest goes; S holds behind every operation but number st -/
def wpG (P : Program) (md : Region.Mode) (ops : Array Oper) (Q : Exit → Act → World → Prop) (S : World → Prop) (st : Nat) : Nat → Array Bool → Act → World → Prop
  | 0, listed, a, w => Region.ready md ops listed = [] ∧ Q .normal a w
  | fuel + 1, listed, a, w =>
    (Region.ready md ops listed = [] → Q .normal a w) ∧
    ∀ j ∈ Region.ready md ops listed, wpOp P ops Q j (fun b W => (j ≠ st → S W) ∧ wpG P md ops Q S st fuel (listed.setIfInBounds j true) b W) a w
theorem wpG.any : ∀ {fuel : Nat} {listed : Array Bool} {a : Act} {w : World}, wpG P md ops Q S st fuel listed a w → wpAny P md ops Q fuel listed a w
  | 0, _, _, _, h => h
  | _ + 1, _, _, _, h => ⟨h.1, fun j hj => wpOp_mono (fun _ _ hb => wpG.any hb.2) (h.2 j hj)⟩
/-- does number s wait for number i, by a row of edges? -/
def reachB (md : Region.Mode) (ops : Array Oper) : Nat → Nat → Nat → Bool
  | 0, _, _ => false
  | n + 1, s, i => ((ops[s]?).map fun o => o.after.any fun e => Region.binds md e && (e.on == i || reachB md ops n e.on i)).getD false
/-- what is waited for has been carried out -/
def ClosedL (md : Region.Mode) (ops : Array Oper) (listed : Array Bool) : Prop := ∀ j o, ops[j]? = some o → listed.getD j false = true → ∀ e ∈ o.after, Region.binds md e = true → listed.getD e.on false = true
theorem reachB.listed {listed : Array Bool} (hc : ClosedL md ops listed) : ∀ {n s i : Nat}, reachB md ops n s i = true → (∀ o, ops[s]? = some o → ∀ e ∈ o.after, Region.binds md e = true → listed.getD e.on false = true) → listed.getD i false = true
  | 0, _, _, h, _ => by simp [reachB] at h
  | n + 1, s, i, h, hs => by
    rw [reachB] at h
    cases ho : ops[s]? with
    | none => rw [ho] at h; simp at h
    | some o =>
      rw [ho] at h
      simp only [Option.map_some, Option.getD_some] at h
      obtain ⟨k, hk, h3⟩ := Array.any_eq_true.1 h
      rw [Bool.and_eq_true, Bool.or_eq_true] at h3
      have hl := hs o ho o.after[k] (Array.getElem_mem hk) h3.1
      rcases h3.2 with h4 | h4
      · rw [← show o.after[k].on = i by simpa using h4]; exact hl
      · exact reachB.listed hc h4 (fun o' ho' e he hb => hc _ o' ho' hl e he hb)
def waitsB (md : Region.Mode) (ops : Array Oper) (st i : Nat) : Bool := st != i && reachB md ops ops.size st i
/-- a Bool for ClosedL -/
def closedB (md : Region.Mode) (ops : Array Oper) (listed : Array Bool) : Bool := (List.range ops.size).all fun j => !listed.getD j false || ((ops[j]?).map fun o => o.after.all fun e => !Region.binds md e || listed.getD e.on false).getD true
theorem closedB.out {listed : Array Bool} (h : closedB md ops listed = true) : ClosedL md ops listed := fun j o ho hl e he hb => by
  have hj : j < ops.size := (Array.getElem?_eq_some_iff.1 ho).1
  have h1 := List.all_eq_true.1 h j (by simpa using hj)
  rw [hl, ho] at h1
  simp only [Option.map_some, Option.getD_some, Bool.not_true, Bool.false_or] at h1
  have h2 := Array.all_eq_true'.1 h1 e he
  rw [hb] at h2
  simpa using h2
theorem ClosedL.set {listed : Array Bool} (h : ClosedL md ops listed) {j : Nat} (hj : j ∈ Region.ready md ops listed) : ClosedL md ops (listed.setIfInBounds j true) := fun k o ho hl e he hb => by
  by_cases hkj : j = k
  · subst hkj
    obtain ⟨_, oj, hoj, hall⟩ := mem_ready.1 hj
    rw [ho] at hoj
    obtain rfl := Option.some.inj hoj
    exact getD_set_true (hall e he hb)
  · rw [getD_set_ne false hkj] at hl
    exact getD_set_true (h k o ho hl e he hb)
theorem wpG.first {i : Nat} {oi : Oper} {v : Value} (hi : ops[i]? = some oi) (hsel : ∀ (j : Nat) (o : Oper) cs b, ops[j]? = some o → o.op ≠ .select cs b)
    (hQ : ∀ c a w, Q (.panic c) (a.put oi.dst v) w → Q (.panic c) a w) (hst : waitsB md ops st i = true) :
    ∀ (fuel : Nat) (listed : Array Bool) (a : Act) (w : World), ClosedL md ops listed →
      (∀ j oj, ops[j]? = some oj → j ≠ i → listed.getD j true = false → (∀ e ∈ oj.after, Region.binds md e = true → e.on ≠ i) → oi.apart ops oj = true) →
      i ∈ Region.ready md ops listed → YieldsIf P ops S oi v a → S w →
      wpG P md ops Q S st fuel (listed.setIfInBounds i true) (a.put oi.dst v) w → wpG P md ops Q S st (fuel + 1) listed a w := by
  intro fuel
  induction fuel with
  | zero =>
    intro listed a w _ _ hr hy hS H
    refine ⟨fun e => (by rw [e] at hr; cases hr), fun j hj => ?_⟩
    by_cases e : j = i
    · rw [e]; exact hy.wpOp hi hS ⟨fun _ => hS, H⟩
    · have h0 := ready_mono hj e
      rw [H.1] at h0; cases h0
  | succ fuel ih =>
    intro listed a w hcl hf hr hy hS H
    refine ⟨fun e => (by rw [e] at hr; cases hr), fun j hj => ?_⟩
    by_cases e : j = i
    · rw [e]; exact hy.wpOp hi hS ⟨fun _ => hS, H⟩
    obtain ⟨hun, oj, hoj, hedges⟩ := mem_ready.1 hj
    have hno : ∀ d ∈ oj.after, Region.binds md d = true → d.on ≠ i := by
      intro d hd hb he
      have h1 := hedges d hd hb
      have h0 := (mem_ready.1 hr).1
      rw [he] at h1
      simp only [Array.getD] at h0 h1
      split at h1
      · rename_i hlt; rw [dif_pos hlt] at h0; rw [h0] at h1; cases h1
      · cases h1
    have hjs : j ≠ st := by
      intro ejs
      have hst' := hst
      unfold waitsB at hst'
      rw [Bool.and_eq_true] at hst'
      have h1 := reachB.listed hcl hst'.2 (fun o ho d hd hb => by
        rw [← ejs, hoj] at ho
        obtain rfl := Option.some.inj ho
        exact hedges d hd hb)
      have h0 := (mem_ready.1 hr).1
      simp only [Array.getD] at h0 h1
      split at h1
      · rename_i hlt; rw [dif_pos hlt] at h0; rw [h0] at h1; cases h1
      · cases h1
    refine wpOp_mono (fun b W hb => ?_) (wpOp_putIf hoj (hf j oj hoj e hun hno) (fun cs b => hsel i oi cs b hi) (fun cs b => hsel j oj cs b hoj) hQ hy (H.2 j (ready_mono hj e)))
    obtain ⟨hy', hS', hG⟩ := hb
    have hSW := hS' hjs
    refine ⟨fun _ => hSW, ih _ b W (hcl.set hj) (fun k ok hok hki hkun hkno => hf k ok hok hki ?_ hkno) (ready_mono hr (fun x => e x.symm)) hy' hSW ?_⟩
    · by_cases hjk : j = k
      · rw [← hjk]; exact hun
      · rw [getD_set_ne true hjk] at hkun; exact hkun
    · rw [Array.setIfInBounds_comm _ _ e]; exact hG
/-- take number i now -/
theorem wpG.take {i fuel : Nat} {listed : Array Bool} {a : Act} {w : World} (hs : Region.noSelect ops = true) (hf : Region.free md ops listed i = true) (hr : (Region.ready md ops listed).contains i = true) (hst : waitsB md ops st i = true) (hcl : closedB md ops listed = true)
    (hS : S w)
    (h : ∀ oi, ops[i]? = some oi → ∃ v, YieldsIf P ops S oi v a ∧ (∀ c b W, Q (.panic c) (Act.put b oi.dst v) W → Q (.panic c) b W) ∧ wpG P md ops Q S st fuel (listed.setIfInBounds i true) (a.put oi.dst v) w) : wpG P md ops Q S st (fuel + 1) listed a w := by
  have hr' : i ∈ Region.ready md ops listed := by simpa using hr
  obtain ⟨_, oi, ho, _⟩ := mem_ready.1 hr'
  obtain ⟨v, hy, hQ, hG⟩ := h oi ho
  exact wpG.first ho (Region.noSelect_spec hs) hQ hst fuel listed a w (closedB.out hcl) (Region.free_spec ho hf) hr' hy hS hG
/-- number i is the only one that may come -/
theorem wpG.one {i fuel : Nat} {listed : Array Bool} {a : Act} {w : World} (hr : Region.ready md ops listed = [i])
    (h : ∀ o, ops[i]? = some o → ∀ K' : Act → World → Prop, (∀ b W, (i ≠ st → S W) → wpG P md ops Q S st fuel (listed.setIfInBounds i true) b W → K' b W) → if Region.wanted o (yielded ops a.tmps) = true then Oper.wp P o a w K' Q else K' (a.put o.dst undef) w) : wpG P md ops Q S st (fuel + 1) listed a w := by
  refine ⟨fun e => (by rw [hr] at e; cases e), fun j hj => ?_⟩
  rw [hr] at hj
  obtain rfl : j = i := by simpa using hj
  have hm : j ∈ Region.ready md ops listed := by rw [hr]; exact List.mem_singleton.2 rfl
  obtain ⟨_, o, ho, _⟩ := mem_ready.1 hm
  exact wpOp_step ho fun K' hK => h o ho K' fun b W h1 h2 => hK _ _ ⟨h1, h2⟩
theorem wpG.done {listed : Array Bool} {a : Act} {w : World} {fuel : Nat} (hr : Region.ready md ops listed = []) (h : Q .normal a w) : wpG P md ops Q S st fuel listed a w := by
  cases fuel with
  | zero => exact ⟨hr, h⟩
  | succ fuel => exact ⟨fun _ => h, by rw [hr]; simp⟩
/-- the beginning -/
theorem wpG_region (st : Nat) (S : World → Prop) {id : Nat} {a : Act} {w : World} (hm : P.follows .mixedOrders = true) (h : wpG P .any ops Q S st ops.size (Array.replicate ops.size false) a w.drew) : (Code.region id ops true).wp P Q a w :=
  wp_region_any hm h.any
end
end Go.Proofs.Ytlhnfdjidjgfgaa
namespace Go.Proofs.Ytlhnfdjidjgfgaa
open Go.RowKit Go.Shelf
set_option linter.unusedVariables false
set_option maxHeartbeats 400000

def mapC (F : T → T) (fs : List Fc) : List Fc := fs.map fun f => ⟨f.neg, F f.l, F f.r⟩
theorem mapC_take {F : T → T} {fs : List Fc} {k : Nat} (h : k < fs.length) : mapC F (fs.take (k + 1)) = mapC F (fs.take k) ++ [⟨fs[k].neg, F fs[k].l, F fs[k].r⟩] := map_take _ h
theorem mapC_length (F : T → T) (fs : List Fc) : (mapC F fs).length = fs.length := by simp [mapC]
theorem boxF5 {w : World} {b : Nat} {v0 v1 v2 v3 v4 : Value} {T : TypeId} (h : w.heap[b]? = some (.cells #[v0, v1, v2, v3, v4] T (0, 0))) :
    w.cell? ⟨b, 0, none⟩ = some v0 ∧ w.cell? ⟨b, 1, none⟩ = some v1 ∧ w.cell? ⟨b, 2, none⟩ = some v2 ∧ w.cell? ⟨b, 3, none⟩ = some v3 ∧ w.cell? ⟨b, 4, none⟩ = some v4 := by
  simp [World.cell?, h]
theorem St.madeP {P : Program} {n : Nat} {a : Array Value} {w0 w : World} {l : List Fct} (S : St w0 w l) {t : T} {p2 : Nat → Prop} (h : Calls P n a w fun e w' => ∃ u, e = .returned u ∧ TreeP (fun b => p2 b ∨ w.heap.size ≤ b) w' u t ∧ Below w.heap.size w w') :
    Calls P n a w fun e w' => ∃ k sp, e = .returned (.agg #[.int .i64 t.head, .slice k t.kids.length (t.kids.length + sp)]) ∧ w.heap.size ≤ w'.heap.size ∧ Below w.heap.size w w' ∧
      St w0 w' (fsnoc l (.treeP (fun b => p2 b ∨ (w.heap.size ≤ b ∧ b < w'.heap.size)) (.agg #[.int .i64 t.head, .slice k t.kids.length (t.kids.length + sp)]) t)) :=
  h.mono fun e w' ⟨u, h1, h2, h3⟩ => by
    obtain ⟨k, sp, rfl⟩ := h2.at.form
    exact ⟨k, sp, h1, h3.size, h3, (S.step h3).add (.treeP _ _ _) (h2.mono (fun b h hl => by rcases h with h | h; exact .inl h; exact .inr ⟨h, hl⟩))⟩
theorem treesF_mem2 {fs : List Fc} {k : Nat} (h : k < fs.length) : fs[k].l ∈ treesF fs ∧ fs[k].r ∈ treesF fs := by
  have h1 := treesF_pair h
  exact ⟨List.mem_of_getElem? h1.1, List.mem_of_getElem? h1.2⟩

set_option maxRecDepth 100000 in
set_option maxHeartbeats 4000000 in
theorem mapAny (F : T → T) (fn : Nat) (cpt : Array Value) (eg : ∀ args w, (callFunc fn args).run Try.prog w = .ok (.enter fn args) w) (fs : List Fc) (p p2 : Nat → Prop) (ao : Option Addr) (sp : Nat) (w : World) (hp : ∀ c, p c → c < w.heap.size) (hp2 : ∀ c, p2 c → c < w.heap.size) (h : factE.Row p w ao fs) (hn : fs.length ≤ 1000000)
    (hf : ∀ W v t, t ∈ treesF fs → Below w.heap.size w W → TreeP p W v t → Calls Try.prog fn (#[v] ++ cpt) W fun e w' => ∃ u, e = .returned u ∧ TreeP (fun b => p2 b ∨ W.heap.size ≤ b) w' u (F t) ∧ Below W.heap.size W w') :
    Calls Try.prog 109 #[.agg #[.slice ao fs.length (fs.length + sp)], .func (.func fn) #[] cpt] w fun e w' => ∃ ro rsp, e = .returned (.agg #[.slice ro (mapC F fs).length ((mapC F fs).length + rsp)]) ∧ factE.Row (fun c => p2 c ∨ w.heap.size ≤ c) w' ro (mapC F fs) ∧ Below w.heap.size w w' := by
  have HR := Lib.hid h; have HP := Lib.hid hp; have HP2' := Lib.hid hp2; have HF := Lib.hid hf
  obtain ⟨i54, gi, gz0, gz1, gz2⟩ := info_parts info54
  obtain ⟨bx, hbx⟩ : ∃ b, b = w.heap.size := ⟨_, rfl⟩
  have S1 := (((St.start w).box hbx.symm #[.slice ao fs.length (fs.length + sp)] 41).box (b := bx + 1) (by simp [hbx]) #[.slice none 0 0] 41).box (b := bx + 2) (by simp [hbx]) #[.slice none 0 0] 41
  have hsz1 : (((w.alloc (.cells #[.slice ao fs.length (fs.length + sp)] 41)).alloc (.cells #[.slice none 0 0] 41)).alloc (.cells #[.slice none 0 0] 41)).heap.size = bx + 3 := by simp [hbx]
  have S1 := S1.add (.owns factE (bx + 3) (fun c => p2 c ∨ bx + 3 ≤ c) (.slice none 0 0) (mapC F (fs.take 0))) (Elt.Own.nil _ _ _ _)
  have HP2 := Lib.hid (show ∀ c, p2 c → c < bx from fun c hc => by rw [hbx]; exact HP2'.out c hc)
  clear h hp hp2 hf
  go_enter Try.func109, Try.ntmps109
  go_wp2_with fail
  rw [← hbx]
  refine S1.genC (z := bx + 3) (by omega) ?_
  intro w1 z1 S
  have HBX := Lib.hid hbx
  clear S1 hbx hsz1
  go_loopw [11] (fun i wr => ∃ (k : Nat) (o : Value), k ≤ fs.length ∧ i = .int .i64 k ∧ bx + 3 ≤ wr.heap.size ∧ St w wr [.box bx #[.slice ao fs.length (fs.length + sp)] 41, .box (bx + 1) #[.slice none 0 0] 41, .box (bx + 2) #[o] 41, .owns factE (bx + 3) (fun c => p2 c ∨ bx + 3 ≤ c) o (mapC F (fs.take k))]) (fun i _ => fs.length - (intOf i).toNat)
  case atStart => exact ⟨0, _, by omega, rfl, z1, S⟩
  case round =>
    clear S
    obtain ⟨k, o, hk, rfl, z3, S⟩ := hrel
    by_cases hlt : k < fs.length
    · have hlti : (k : Int) < (fs.length : Int) := by omega
      obtain ⟨bk, hbk⟩ : ∃ b, b = wr.heap.size := ⟨_, rfl⟩
      obtain ⟨bb, off, ka, sa, kb, sb, rfl, hpb, c0', c1', c2', c3', c4', t1, t2⟩ := (HR.out.kept S.bel).fact hlt
      have c0 := c0'; have c1 := c1'; have c2 := c2'; have c3 := c3'; have c4 := c4'
      have HPR := treesF_mem2 hlt
      have HTK := mapC_take (F := F) hlt
      obtain ⟨X, hX⟩ : ∃ X, X = fs[k].l := ⟨_, rfl⟩
      obtain ⟨Y, hY⟩ : ∃ Y, Y = fs[k].r := ⟨_, rfl⟩
      obtain ⟨N, hN⟩ : ∃ N, N = fs[k].neg := ⟨_, rfl⟩
      rw [← hX, ← hY] at HPR HTK
      rw [← hN] at HTK
      rw [← hX] at c1 c2 t1
      rw [← hY] at c3 c4 t2
      rw [← hN] at c0
      have HPX := Lib.hid HPR.1; have HPY := Lib.hid HPR.2
      have HT := Lib.hid HTK
      have T1' := Lib.hid t1; have T2' := Lib.hid t2
      have HOW := Lib.hid (show ∀ c, o.ownBlock = some c → bx + 3 ≤ c ∧ c < bk from fun c hc => by rw [hbk]; exact S.ownlt factE 3 rfl c hc)
      have SK := S.box hbk.symm #[.bool N, .int .i64 X.head, .slice ka X.kids.length (X.kids.length + sa), .int .i64 Y.head, .slice kb Y.kids.length (Y.kids.length + sb)] 62
      have HBA := Lib.hid (show Below wr.heap.size wr (wr.alloc (.cells #[.bool N, .int .i64 X.head, .slice ka X.kids.length (X.kids.length + sa), .int .i64 Y.head, .slice kb Y.kids.length (Y.kids.length + sb)] 62)) from (Below.refl _ _).alloc (Nat.le_refl _) _)
      obtain ⟨RL, hRL⟩ : ∃ RL, RL = mapC F (fs.take k) := ⟨_, rfl⟩
      have hlk : RL.length = k := by rw [hRL, mapC_length]; simp; omega
      have HRL := Lib.hid hRL
      rw [← hRL] at SK
      clear c0' c1' c2' c3' c4' S hRL hX hY hN HPR t1 t2 HTK
      go_wp2_with fail
      rw [← hbk]
      have TT := And.intro (T1'.out.kept HBA.out) (T2'.out.kept HBA.out)
      have G := And.intro SK TT
      have z4' : bk + 1 ≤ (wr.alloc (.cells #[.bool N, .int .i64 X.head, .slice ka X.kids.length (X.kids.length + sa), .int .i64 Y.head, .slice kb Y.kids.length (Y.kids.length + sb)] 62)).heap.size := by simp [hbk]
      generalize wr.alloc (.cells #[.bool N, .int .i64 X.head, .slice ka X.kids.length (X.kids.length + sa), .int .i64 Y.head, .slice kb Y.kids.length (Y.kids.length + sb)] 62) = w2 at G z4' ⊢
      obtain ⟨S, t1, t2⟩ := G
      have T1 := Lib.hid (t1.kept (Below.refl w2.heap.size w2).drew); have T2 := Lib.hid (t2.kept (Below.refl w2.heap.size w2).drew)
      have HBK := Lib.hid (show bx + 3 ≤ bk by omega)
      have z4 : bk + 1 ≤ w2.heap.size := z4'
      clear SK hbk c0 c1 c2 c3 c4 TT t1 t2 HBA T1' T2' z4'
      have SD := Lib.hid S.drew
      obtain ⟨y0, _⟩ := SD.out.one 2
      have hzd : w2.drew.heap.size = w2.heap.size := rfl
      obtain ⟨x0, x1, x2, x3, x4⟩ := boxF5 (SD.out.block 4)
      clear S
      refine wpG_region 16 (fun W => W.cell? ⟨bx + 2, 0, none⟩ = some o ∧ W.cell? ⟨bk, 0, none⟩ = some (.bool N) ∧ W.cell? ⟨bk, 1, none⟩ = some (.int .i64 X.head) ∧ W.cell? ⟨bk, 2, none⟩ = some (.slice ka X.kids.length (X.kids.length + sa)) ∧ W.cell? ⟨bk, 3, none⟩ = some (.int .i64 Y.head) ∧ W.cell? ⟨bk, 4, none⟩ = some (.slice kb Y.kids.length (Y.kids.length + sb))) (by kernel_rfl) ?_
      have HS := And.intro (SD.out.one 2).1 (boxF5 (SD.out.block 4))
      refine wpG.take (i := 0) (by kernel_rfl) (by kernel_rfl) (by kernel_rfl) (by kernel_rfl) (by kernel_rfl) HS ?_
      intro oi ho
      simp only [List.getElem?_toArray, List.getElem?_cons_zero, Option.some.injEq] at ho
      subst ho
      refine ⟨?_, Or.inl ⟨by rfl, ?_⟩, fun _ _ _ h => h, ?_⟩
      rotate_left 1
      · intro W hW
        try dsimp only at hW
        go_simp
        try with_reducible rfl
      simp only [Act.put, List.setIfInBounds_toArray, List.set_cons_zero, List.set_cons_succ]
      refine wpG.take (i := 1) (by kernel_rfl) (by kernel_rfl) (by kernel_rfl) (by kernel_rfl) (by kernel_rfl) HS ?_
      intro oi ho
      simp only [List.getElem?_toArray, List.getElem?_cons_succ, List.getElem?_cons_zero, Option.some.injEq] at ho
      subst ho
      refine ⟨?_, Or.inl ⟨by rfl, ?_⟩, fun _ _ _ h => h, ?_⟩
      rotate_left 1
      · intro W hW
        try dsimp only at hW
        go_simp
        try with_reducible rfl
      simp only [Act.put, List.setIfInBounds_toArray, List.set_cons_zero, List.set_cons_succ]
      refine wpG.take (i := 2) (by kernel_rfl) (by kernel_rfl) (by kernel_rfl) (by kernel_rfl) (by kernel_rfl) HS ?_
      intro oi ho
      simp only [List.getElem?_toArray, List.getElem?_cons_succ, List.getElem?_cons_zero, Option.some.injEq] at ho
      subst ho
      refine ⟨?_, Or.inl ⟨by rfl, ?_⟩, fun _ _ _ h => h, ?_⟩
      rotate_left 1
      · intro W hW
        try dsimp only at hW
        go_simp
        try with_reducible rfl
      simp only [Act.put, List.setIfInBounds_toArray, List.set_cons_zero, List.set_cons_succ]
      refine wpG.take (i := 3) (by kernel_rfl) (by kernel_rfl) (by kernel_rfl) (by kernel_rfl) (by kernel_rfl) HS ?_
      intro oi ho
      simp only [List.getElem?_toArray, List.getElem?_cons_succ, List.getElem?_cons_zero, Option.some.injEq] at ho
      subst ho
      refine ⟨?_, Or.inl ⟨by rfl, ?_⟩, fun _ _ _ h => h, ?_⟩
      rotate_left 1
      · intro W hW
        try dsimp only at hW
        go_simp
        try with_reducible rfl
      simp only [Act.put, List.setIfInBounds_toArray, List.set_cons_zero, List.set_cons_succ]
      refine wpG.take (i := 4) (by kernel_rfl) (by kernel_rfl) (by kernel_rfl) (by kernel_rfl) (by kernel_rfl) HS ?_
      intro oi ho
      simp only [List.getElem?_toArray, List.getElem?_cons_succ, List.getElem?_cons_zero, Option.some.injEq] at ho
      subst ho
      refine ⟨?_, Or.inl ⟨by rfl, ?_⟩, fun _ _ _ h => h, ?_⟩
      rotate_left 1
      · intro W hW
        try dsimp only at hW
        go_simp
        try with_reducible rfl
      simp only [Act.put, List.setIfInBounds_toArray, List.set_cons_zero, List.set_cons_succ]
      refine wpG.take (i := 5) (by kernel_rfl) (by kernel_rfl) (by kernel_rfl) (by kernel_rfl) (by kernel_rfl) HS ?_
      intro oi ho
      simp only [List.getElem?_toArray, List.getElem?_cons_succ, List.getElem?_cons_zero, Option.some.injEq] at ho
      subst ho
      refine ⟨?_, Or.inl ⟨by rfl, ?_⟩, fun _ _ _ h => h, ?_⟩
      rotate_left 1
      · intro W hW
        try dsimp only at hW
        go_simp
        try with_reducible rfl
      simp only [Act.put, List.setIfInBounds_toArray, List.set_cons_zero, List.set_cons_succ]
      refine wpG.take (i := 6) (by kernel_rfl) (by kernel_rfl) (by kernel_rfl) (by kernel_rfl) (by kernel_rfl) HS ?_
      intro oi ho
      simp only [List.getElem?_toArray, List.getElem?_cons_succ, List.getElem?_cons_zero, Option.some.injEq] at ho
      subst ho
      refine ⟨?_, Or.inl ⟨by rfl, ?_⟩, fun _ _ _ h => h, ?_⟩
      rotate_left 1
      · intro W hW
        try dsimp only at hW
        go_simp
        try with_reducible rfl
      simp only [Act.put, List.setIfInBounds_toArray, List.set_cons_zero, List.set_cons_succ]
      refine wpG.take (i := 8) (by kernel_rfl) (by kernel_rfl) (by kernel_rfl) (by kernel_rfl) (by kernel_rfl) HS ?_
      intro oi ho
      simp only [List.getElem?_toArray, List.getElem?_cons_succ, List.getElem?_cons_zero, Option.some.injEq] at ho
      subst ho
      refine ⟨?_, Or.inl ⟨by rfl, ?_⟩, fun _ _ _ h => h, ?_⟩
      rotate_left 1
      · intro W hW
        try dsimp only at hW
        go_simp
        try with_reducible rfl
      simp only [Act.put, List.setIfInBounds_toArray, List.set_cons_zero, List.set_cons_succ]
      refine wpG.take (i := 9) (by kernel_rfl) (by kernel_rfl) (by kernel_rfl) (by kernel_rfl) (by kernel_rfl) HS ?_
      intro oi ho
      simp only [List.getElem?_toArray, List.getElem?_cons_succ, List.getElem?_cons_zero, Option.some.injEq] at ho
      subst ho
      refine ⟨?_, Or.inl ⟨by rfl, ?_⟩, fun _ _ _ h => h, ?_⟩
      rotate_left 1
      · intro W hW
        try dsimp only at hW
        go_simp
        try with_reducible rfl
      simp only [Act.put, List.setIfInBounds_toArray, List.set_cons_zero, List.set_cons_succ]
      refine wpG.take (i := 10) (by kernel_rfl) (by kernel_rfl) (by kernel_rfl) (by kernel_rfl) (by kernel_rfl) HS ?_
      intro oi ho
      simp only [List.getElem?_toArray, List.getElem?_cons_succ, List.getElem?_cons_zero, Option.some.injEq] at ho
      subst ho
      refine ⟨?_, Or.inl ⟨by rfl, ?_⟩, fun _ _ _ h => h, ?_⟩
      rotate_left 1
      · intro W hW
        try dsimp only at hW
        go_simp
        try with_reducible rfl
      simp only [Act.put, List.setIfInBounds_toArray, List.set_cons_zero, List.set_cons_succ]
      refine wpG.one (i := 7) (by kernel_rfl) ?_
      intro oi ho
      simp only [List.getElem?_toArray, List.getElem?_cons_succ, List.getElem?_cons_zero, Option.some.injEq] at ho
      subst ho
      intro K hK
      have HK := Lib.hid hK
      have HSH := Lib.hid HS
      clear hK HS
      go_simp
      refine (SD.out.madeP (HF.out w2.drew _ X HPX.out (SD.out.bel) T1.out)).mono ?_
      rintro e w4 ⟨k4, s4, rfl, hz4, hb4', S4⟩
      have hz4 : w2.heap.size ≤ w4.heap.size := hz4
      dsimp only
      refine HK.out _ _ (fun _ => ⟨(S4.one 2).1, boxF5 (S4.block 4)⟩) ?_
      have HS := And.intro (S4.one 2).1 (boxF5 (S4.block 4))
      try simp only [Act.put, List.setIfInBounds_toArray, List.set_cons_zero, List.set_cons_succ]
      refine wpG.one (i := 11) (by kernel_rfl) ?_
      intro oi ho
      simp only [List.getElem?_toArray, List.getElem?_cons_succ, List.getElem?_cons_zero, Option.some.injEq] at ho
      subst ho
      intro K hK
      have HK := Lib.hid hK
      have HSH := Lib.hid HS
      clear hK HS
      have hb4 := Lib.hid hb4'
      go_simp
      refine (S4.madeP (HF.out w4 _ Y HPY.out S4.bel (T2.out.kept hb4.out))).mono ?_
      rintro e w5 ⟨k5, s5, rfl, hz5, hb5', S5⟩
      dsimp only
      refine HK.out _ _ (fun _ => ⟨(S5.one 2).1, boxF5 (S5.block 4)⟩) ?_
      have HS := And.intro (S5.one 2).1 (boxF5 (S5.block 4))
      try simp only [Act.put, List.setIfInBounds_toArray, List.set_cons_zero, List.set_cons_succ]
      refine wpG.take (i := 12) (by kernel_rfl) (by kernel_rfl) (by kernel_rfl) (by kernel_rfl) (by kernel_rfl) HS ?_
      intro oi ho
      simp only [List.getElem?_toArray, List.getElem?_cons_succ, List.getElem?_cons_zero, Option.some.injEq] at ho
      subst ho
      refine ⟨?_, Or.inl ⟨by rfl, ?_⟩, fun _ _ _ h => h, ?_⟩
      rotate_left 1
      · intro W hW
        try dsimp only at hW
        go_simp
        try with_reducible rfl
      simp only [Act.put, List.setIfInBounds_toArray, List.set_cons_zero, List.set_cons_succ]
      refine wpG.one (i := 13) (by kernel_rfl) ?_
      intro oi ho
      simp only [List.getElem?_toArray, List.getElem?_cons_succ, List.getElem?_cons_zero, Option.some.injEq] at ho
      subst ho
      intro K hK
      have HK := Lib.hid hK
      have HSH := Lib.hid HS
      clear hK HS
      have SA := S5.alloc (.cells #[.bool N, .int .i64 (F X).head, .slice k4 (F X).kids.length ((F X).kids.length + s4), .int .i64 (F Y).head, .slice k5 (F Y).kids.length ((F Y).kids.length + s5)] 62)
      go_simp
      refine HK.out _ _ (fun _ => ⟨(SA.one 2).1, boxF5 (SA.block 4)⟩) ?_
      have HS := And.intro (SA.one 2).1 (boxF5 (SA.block 4))
      try simp only [Act.put, List.setIfInBounds_toArray, List.set_cons_zero, List.set_cons_succ]
      refine wpG.one (i := 14) (by kernel_rfl) ?_
      intro oi ho
      simp only [List.getElem?_toArray, List.getElem?_cons_succ, List.getElem?_cons_zero, Option.some.injEq] at ho
      subst ho
      intro K hK
      have HK := Lib.hid hK
      have HSH := Lib.hid HS
      clear hK HS
      refine step_app (by rfl) (.tmp 16) (.tmp 28) 39 (by rfl) factE S5 3 rfl (x := ⟨N, F X, F Y⟩) (q := fun b => p2 b ∨ (w2.heap.size ≤ b ∧ b < w5.heap.size)) (p' := fun b => p2 b ∨ bx + 3 ≤ b) ⟨k4, s4, k5, s5, rfl, (S5.treeP 5).mono (fun b h _ => by rcases h with h | h; exact .inl h; exact .inr ⟨h.1, by have := h.2; omega⟩), (S5.treeP 6).mono (fun b h _ => by rcases h with h | h; exact .inl h; exact .inr ⟨by have h1 : w4.heap.size ≤ b := h.1; omega, h.2⟩)⟩ Try.underlying39 gi gz0 gz1 gz2 (by rfl) (by rfl) (by rfl) (by rfl) (by unfold maxLen; omega) (by omega) (by have := HBK.out; omega) (by have := HBX.out; omega)
            (fun bb h1 h2 h3 => by have h4 := (HOW.out bb h1).2; simp only [fsnoc, offs, offAll, Fct.box, Fct.treeP, and_true]; have := HBX.out; refine ⟨by omega, by omega, by omega, by omega, fun e => ?_, fun e => ?_⟩ <;> (rcases e with e | e; have := HP2.out bb e; omega; have := e.1; omega)) (fun bb h1 h2 => by have h4 := (HOW.out bb h2).2; have h6 := (HOW.out bb h2).1; have := HBX.out; rcases h1 with h1 | h1; have := HP2.out bb h1; omega; have := h1.1; omega) (fun bb h1 => by have h6 := HBK.out; rcases h1 with h1 | h1; exact h1; rcases h1 with h1 | h1; exact .inl h1; exact .inr (by have h5 := h1.1; omega)) ?_
      intro gg cap w6 S6 hs6 hgg hat6
      refine HK.out _ _ (fun _ => ⟨(S6.one 2).1, boxF5 (S6.block 4)⟩) ?_
      have HS := And.intro (S6.one 2).1 (boxF5 (S6.block 4))
      try simp only [Act.put, List.setIfInBounds_toArray, List.set_cons_zero, List.set_cons_succ]
      refine wpG.take (i := 15) (by kernel_rfl) (by kernel_rfl) (by kernel_rfl) (by kernel_rfl) (by kernel_rfl) HS ?_
      intro oi ho
      simp only [List.getElem?_toArray, List.getElem?_cons_succ, List.getElem?_cons_zero, Option.some.injEq] at ho
      subst ho
      refine ⟨?_, Or.inl ⟨by rfl, ?_⟩, fun _ _ _ h => h, ?_⟩
      rotate_left 1
      · intro W hW
        try dsimp only at hW
        go_simp
        try with_reducible rfl
      simp only [Act.put, List.setIfInBounds_toArray, List.set_cons_zero, List.set_cons_succ]
      refine wpG.one (i := 16) (by kernel_rfl) ?_
      intro oi ho
      simp only [List.getElem?_toArray, List.getElem?_cons_succ, List.getElem?_cons_zero, Option.some.injEq] at ho
      subst ho
      intro K hK
      have HK := Lib.hid hK
      have HSH := Lib.hid HS
      clear hK HS
      obtain ⟨u0, u1⟩ := S6.one 2
      go_simp
      refine HK.out _ _ (fun h => absurd rfl h) ?_
      try simp only [Act.put, List.setIfInBounds_toArray, List.set_cons_zero, List.set_cons_succ]
      refine wpG.done (by kernel_rfl) ?_
      rw [hlk] at S6
      have S7 := (S6.set1 2 rfl (.slice (some ⟨gg, 0, none⟩) (k + 1) cap) (by have := HBX.out; omega) (by
        have h8 := (S6.ownlt factE 3 rfl gg rfl).1
        simp only [fset, fsnoc, offs, offAll, Fct.box, Fct.treeP, Fct.owns, and_true]; have := HBX.out; have := HBK.out
        refine ⟨by omega, by omega, fun e => ?_, by omega, fun e => ?_, fun e => ?_⟩
        · rcases e with e | e | e
          · have e' : gg = bx + 2 := by simpa [Value.ownBlock] using e
            omega
          · have := HP2.out _ e; omega
          · omega
        · rcases e with e | e
          · have := HP2.out _ e; omega
          · have := e.1; omega
        · rcases e with e | e
          · have := HP2.out _ e; omega
          · have := e.1; omega)).pick [0, 1, 2, 3]
      have S8 := Lib.hid (show St w (w6.setCell ⟨bx + 2, 0, none⟩ (.slice (some ⟨gg, 0, none⟩) (k + 1) cap)) [.box bx #[.slice (some ⟨bb, off, none⟩) fs.length (fs.length + sp)] 41, .box (bx + 1) #[.slice none 0 0] 41, .box (bx + 2) #[(.slice (some ⟨gg, 0, none⟩) (k + 1) cap)] 41, .owns factE (bx + 3) (fun c => p2 c ∨ bx + 3 ≤ c) (.slice (some ⟨gg, 0, none⟩) (k + 1) cap) (mapC F (fs.take (k + 1)))] by rw [HT.out, ← HRL.out]; exact S7)
      clear S7 S6 S5 S4 SA u0 u1 x0 x1 x2 x3 x4 y0
      go_wp2_with fail
      go_roundw
      case rel => exact ⟨k + 1, _, by omega, by go_num, by have := HBK.out; simp; omega, S8.out⟩
      case measure => simp [intOf] <;> omega
    · obtain rfl : k = fs.length := by omega
      rw [List.take_length] at S
      obtain ⟨ro, rsp, rfl, hrow, hml2⟩ := (S.owns factE 3).row (fun b h => Or.inr h)
      have HT := Lib.hid hrow
      have SB := Lib.hid S
      obtain ⟨x0, _⟩ := S.one 1
      obtain ⟨y0, y1⟩ := S.one 2
      have hl1 := S.lt 1
      clear hrow S
      go_wp2_with fail
      refine ret_box1 (.slice ro (mapC F fs).length ((mapC F fs).length + rsp)) (bx + 1) 41 (box1_set' (SB.out.block 1) _ rfl) (fun w' q0 => by simp [results, Try.results109, go_sem, q0]) rfl ?_
      have hx1 := HBX.out
      refine ⟨_, _, rfl, HT.out.keep (fun b h1 h2 => ⟨Below.heap_setCell _ _ _ _ (by show b ≠ bx + 1; rcases h1 with h1 | h1; have := HP2.out b h1; omega; omega), by rcases h1 with h1 | h1; exact .inl h1; exact .inr (by omega)⟩), SB.out.bel.setCell (p := ⟨bx + 1, 0, none⟩) (by show w.heap.size ≤ bx + 1; omega) _⟩
end Go.Proofs.Ytlhnfdjidjgfgaa
