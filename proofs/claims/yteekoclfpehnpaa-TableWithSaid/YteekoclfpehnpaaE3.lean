/-
  Walks: the document's Form of a claim.
-/
import Derived.Test.YteekoclfpehnpaaProg
import Derived.Test.YteekoclfpehnpaaXb
import Derived.Test.YteekoclfpehnpaaT18
import Derived.Test.YteekoclfpehnpaaXa
namespace Go.Proofs.Yteekoclfpehnpaa
open Go.RowKit Go.Shelf
set_option linter.unusedVariables false
set_option maxHeartbeats 400000

def firstC : List T → Int
  | [] => 0
  | t :: r => if (treeF t).1 ≠ 0 then (treeF t).1 else firstC r
theorem firstC_hit : ∀ {ts : List T} {k : Nat} {t : T}, (∀ (j : Nat) t, j < k → ts[j]? = some t → (treeF t).1 = 0) → ts[k]? = some t → (treeF t).1 ≠ 0 → firstC ts = (treeF t).1
  | [], k, t, _, h, _ => by simp at h
  | x :: r, 0, t, _, h, hc => by simp at h; subst h; simp [firstC, hc]
  | x :: r, k + 1, t, hno, h, hc => by
    have h0 := hno 0 x (by omega) rfl
    simp only [firstC, h0, ne_eq, not_true_eq_false, if_false]
    exact firstC_hit (k := k) (fun j t hj ht => hno (j + 1) t (by omega) (by simpa using ht)) (by simpa using h) hc
theorem firstC_none : ∀ {ts : List T}, (∀ (j : Nat) t, j < ts.length → ts[j]? = some t → (treeF t).1 = 0) → firstC ts = 0
  | [], _ => rfl
  | x :: r, hno => by
    have h0 := hno 0 x (by rw [List.length_cons]; omega) rfl
    simp only [firstC, h0, ne_eq, not_true_eq_false, if_false]
    exact firstC_none (fun j t hj ht => hno (j + 1) t (by simpa using hj) (by simpa using ht))
def formF (fs : List Fc) : Int := if 6 < fs.length then 2 else firstC (treesF fs)

theorem Elt.Row.tree {p : Nat → Prop} {w : World} {ao : Option Addr} {ts : List T} (h : treeE.Row p w ao ts) {i : Nat} (hi : i < ts.length) : ∃ b off k sp, ao = some ⟨b, off, none⟩ ∧ p b ∧
    w.cell? ⟨b, off + i * 2, none⟩ = some (.int .i64 ts[i].head) ∧ w.cell? ⟨b, off + i * 2 + 1, none⟩ = some (.slice k ts[i].kids.length (ts[i].kids.length + sp)) ∧
    TreeP p w (.agg #[.int .i64 ts[i].head, .slice k ts[i].kids.length (ts[i].kids.length + sp)]) ts[i] := by
  obtain ⟨b, off, cs, e, hp, hc, k, sp, rfl, h1⟩ := h i ts[i] (List.getElem?_eq_getElem hi)
  exact ⟨b, off, k, sp, e, hp, hc 0 _ rfl, hc 1 _ rfl, h1⟩
theorem St.trees {P : Program} {n : Nat} {a : Array Value} {w0 w : World} {l : List Fct} (S : St w0 w l) {p : Nat → Prop} {ts : List T} (h : Calls P n a w fun e w' => ∃ ro sp, e = .returned (.slice ro ts.length (ts.length + sp)) ∧ treeE.Row (fun b => p b ∨ w.heap.size ≤ b) w' ro ts ∧ Below w.heap.size w w') :
    Calls P n a w fun e w' => ∃ ro sp, e = .returned (.slice ro ts.length (ts.length + sp)) ∧ w.heap.size ≤ w'.heap.size ∧ St w0 w' (fsnoc l (.rowE treeE (fun b => p b ∨ w.heap.size ≤ b) ro ts)) :=
  h.mono fun e w' ⟨ro, sp, h1, h2, h3⟩ => ⟨ro, sp, h1, h3.size, (S.step h3).add (.rowE treeE _ ro ts) h2⟩
theorem St.faultF {P : Program} {n : Nat} {a : Array Value} {w0 w : World} {l : List Fct} (S : St w0 w l) {f : Int × Int} (h : Calls P n a w fun e w' => e = .returned (FV f) ∧ Below w.heap.size w w') :
    Calls P n a w fun e w' => ∃ c d, e = .returned (.agg #[.int .i64 c, .int .i64 d]) ∧ Hid (f = (c, d)) ∧ w.heap.size ≤ w'.heap.size ∧ St w0 w' l := S.fault h

set_option maxRecDepth 100000 in
set_option maxHeartbeats 4000000 in
theorem form16 (fs : List Fc) (p : Nat → Prop) (ao : Option Addr) (sp : Nat) (w : World) (h : factE.Row p w ao fs) (hn : fs.length ≤ 1000000) (hp : ∀ b, p b → b < w.heap.size) (hs : ∀ (i : Nat) t, (treesF fs)[i]? = some t → t.size ≤ 1000000) :
    Calls Try.prog 16 #[.agg #[.slice ao fs.length (fs.length + sp)]] w fun e w' => e = .returned (.int .i64 (formF fs)) ∧ Below w.heap.size w w' := by
  have HR := Lib.hid h; have HP := Lib.hid hp; have HS := Lib.hid hs
  obtain ⟨bx, hbx⟩ : ∃ b, b = w.heap.size := ⟨_, rfl⟩
  have S := (St.start w).box hbx.symm #[.slice ao fs.length (fs.length + sp)] 24
  have HBX := Lib.hid hbx
  have hsz : (w.alloc (.cells #[.slice ao fs.length (fs.length + sp)] 24)).heap.size = bx + 1 := by simp [hbx]
  clear h hp hs
  by_cases h6 : 6 < fs.length
  · have HF := Lib.hid (show formF fs = 2 by unfold formF; rw [if_pos h6])
    have SE := Lib.hid S.bel
    have h6i : (6 : Int) < (fs.length : Int) := by omega
    clear S h6
    go_enter Try.func16, Try.ntmps16
    go_wp2_with fail
    go_ret
    exact ⟨ret_int HF.out.symm, SE.out⟩
  · have HF := Lib.hid (show formF fs = firstC (treesF fs) by unfold formF; rw [if_neg h6])
    have h6i : ¬ (6 : Int) < (fs.length : Int) := by omega
    have hT : (treesF fs).length ≤ 2000000 := by rw [treesF_length]; omega
    go_enter Try.func16, Try.ntmps16
    go_wp2_with fail
    refine S.gen (z := bx + 1) (by omega) ?_
    intro w1 z1 S1
    clear S
    refine (S1.trees (trees64 fs p ao sp w1 (HR.out.kept S1.bel) hn (fun b hb => by have := HP.out b hb; have := HBX.out; omega))).mono ?_
    rintro e w2 ⟨ro, rsp, rfl, z2, S2⟩
    clear S1
    go_wp2_with fail
    go_loopw [4] (fun i wr => ∃ k : Nat, k ≤ (treesF fs).length ∧ i = .int .i64 k ∧ (∀ (j : Nat) t, j < k → (treesF fs)[j]? = some t → (treeF t).1 = 0) ∧ St w wr [.box bx #[.slice ao fs.length (fs.length + sp)] 24, .rowE treeE (fun b => p b ∨ w1.heap.size ≤ b) ro (treesF fs)]) (fun i _ => (treesF fs).length - (intOf i).toNat)
    case atStart => exact ⟨0, by omega, rfl, fun j t hj _ => by omega, S2⟩
    case round =>
      obtain ⟨k, hk, rfl, hno, S⟩ := hrel
      have HNO := Lib.hid hno
      clear S2 hno
      by_cases hlt : k < (treesF fs).length
      · have hlti : (k : Int) < ((treesF fs).length : Int) := by omega
        obtain ⟨b, off, ka, sa, rfl, hpb, c0, c1, ht⟩ := (S.rowE treeE 1).tree hlt
        have HT := Lib.hid ht
        have HSK := Lib.hid (HS.out k _ (List.getElem?_eq_getElem hlt))
        clear ht
        go_wp2_with fail
        refine (S.faultF (tree18 (treesF fs)[k] _ wr HSK.out HT.out.at)).mono ?_
        rintro e w3 ⟨c, d, rfl, HC, z3, S3⟩
        clear S
        have HC1 := Lib.hid (show (treeF (treesF fs)[k]).1 = c by rw [HC.out])
        by_cases hc : c = 0
        · have hcb : (c != 0) = false := by simp [hc]
          have HN := Lib.hid (show ∀ (j : Nat) t, j < k + 1 → (treesF fs)[j]? = some t → (treeF t).1 = 0 from fun j t hj ht => by
            rcases Nat.lt_succ_iff_lt_or_eq.1 hj with h | rfl
            · exact HNO.out j t h ht
            · rw [List.getElem?_eq_getElem hlt] at ht
              obtain rfl := Option.some.inj ht
              rw [HC1.out, hc])
          have SC := Lib.hid (S3.alloc (.cells #[.int .i64 c, .int .i64 d] 32))
          clear S3 hc
          go_wp2_with fail
          go_roundw
          case rel => exact ⟨k + 1, by omega, by go_num, HN.out, SC.out⟩
          case measure => simp [intOf] <;> omega
        · have hcb : (c != 0) = true := by simp [hc]
          have HFI := Lib.hid (show formF fs = c by rw [HF.out, firstC_hit HNO.out (List.getElem?_eq_getElem hlt) (by rw [HC1.out]; exact hc), HC1.out])
          have SC := Lib.hid (S3.alloc (.cells #[.int .i64 c, .int .i64 d] 32)).bel
          clear S3 hc
          go_wp2_with fail
          go_ret
          exact ⟨ret_int HFI.out.symm, SC.out⟩
      · obtain rfl : k = (treesF fs).length := by omega
        have HFI := Lib.hid (show formF fs = 0 by rw [HF.out, firstC_none HNO.out])
        have SC := Lib.hid S.bel
        clear S
        go_wp2_with fail
        go_ret
        exact ⟨ret_int HFI.out.symm, SC.out⟩
end Go.Proofs.Yteekoclfpehnpaa
