/-
  Walks: is a lore vast?
-/
import Derived.Test.YtidgnbdlfngeaaaGreatDoorProg
import Derived.Test.YtidgnbdlfngeaaaGreatDoorXd
namespace Go.Proofs.YtidgnbdlfngeaaaGreatDoor
open Go.RowKit Go.Shelf
set_option linter.unusedVariables false
set_option maxHeartbeats 400000

def bigT (t : T) : Bool := decide ((200 : Int) < t.size)
def vastC (c : List Fc) : Bool := decide (40 < (treesF c).length) || (treesF c).any bigT
def vastL (na : Nat) (cs : List (List Fc)) : Bool := decide (80 < cs.length) || decide (40 < na) || cs.any vastC
theorem any_take {α : Type} {p : α → Bool} {l : List α} {k : Nat} {x : α} (hx : l[k]? = some x) (h : p x = true) : l.any p = true := List.any_eq_true.2 ⟨x, List.mem_of_getElem? hx, h⟩
theorem any_none {α : Type} {p : α → Bool} {l : List α} (h : ∀ (j : Nat) x, j < l.length → l[j]? = some x → p x = false) : l.any p = false := by
  rw [List.any_eq_false]
  intro x hx
  obtain ⟨j, hj, rfl⟩ := List.getElem_of_mem hx
  rw [h j _ hj (List.getElem?_eq_getElem hj)]; simp
theorem no_step {α : Type} {p : α → Bool} {l : List α} {k : Nat} (hk : k < l.length) (h : ∀ (j : Nat) x, j < k → l[j]? = some x → p x = false) (h2 : p l[k] = false) : ∀ (j : Nat) x, j < k + 1 → l[j]? = some x → p x = false := fun j x hj hx => by
  rcases Nat.lt_succ_iff_lt_or_eq.1 hj with h3 | rfl
  · exact h j x h3 hx
  · rw [List.getElem?_eq_getElem hk] at hx
    obtain rfl := Option.some.inj hx
    exact h2
theorem Elt.Row.claim {p : Nat → Prop} {w : World} {ao : Option Addr} {cs : List (List Fc)} (h : claimE.Row p w ao cs) {i : Nat} (hi : i < cs.length) : ∃ b off k sp, ao = some ⟨b, off, none⟩ ∧ p b ∧
    w.cell? ⟨b, off + i, none⟩ = some (.slice k cs[i].length (cs[i].length + sp)) ∧ factE.Row p w k cs[i] ∧ cs[i].length ≤ maxLen := by
  obtain ⟨b, off, c, e, hp, hc, k, sp, rfl, h1, h2⟩ := h i cs[i] (List.getElem?_eq_getElem hi)
  exact ⟨b, off, k, sp, e, hp, by have := hc 0 _ rfl; simpa [claimE] using this, h1, h2⟩

set_option maxRecDepth 100000 in
set_option maxHeartbeats 4000000 in
theorem vastLore15 (na : Nat) (cs : List (List Fc)) (p : Nat → Prop) (aa co : Option Addr) (ca cc : Nat) (w : World) (h : claimE.Row p w co cs) (hp : ∀ b, p b → b < w.heap.size) (hna : na ≤ 1000000) (hn : cs.length ≤ 1000000)
    (hf : ∀ (i : Nat) c, cs[i]? = some c → c.length ≤ 1000000) (hs : ∀ (i : Nat) c, cs[i]? = some c → ∀ (j : Nat) t, (treesF c)[j]? = some t → t.size ≤ 2000000) :
    Calls Tryz.prog 4 #[.agg #[.slice aa na ca, .slice co cs.length cc]] w fun e w' => e = .returned (.bool (vastL na cs)) ∧ Below w.heap.size w w' := by
  have HR := Lib.hid h; have HP := Lib.hid hp; have HS := Lib.hid hs; have HF := Lib.hid hf
  obtain ⟨bx, hbx⟩ : ∃ b, b = w.heap.size := ⟨_, rfl⟩
  have S := (St.start w).box hbx.symm #[.slice aa na ca, .slice co cs.length cc] 25
  have HBX := Lib.hid hbx
  have hsz : (w.alloc (.cells #[.slice aa na ca, .slice co cs.length cc] 25)).heap.size = bx + 1 := by simp [hbx]
  clear h hp hs hf
  by_cases h8 : 80 < cs.length
  · have HV := Lib.hid (show vastL na cs = true by unfold vastL; rw [decide_eq_true h8]; rfl)
    have SE := Lib.hid S.bel
    have h8i : (80 : Int) < (cs.length : Int) := by omega
    clear S h8
    go_enter Tryz.func4, Tryz.ntmps4
    go_wp2_with fail
    go_ret
    exact ⟨ret_bool HV.out.symm, SE.out⟩
  by_cases h4 : 40 < na
  · have HV := Lib.hid (show vastL na cs = true by unfold vastL; rw [decide_eq_true h4]; simp)
    have SE := Lib.hid S.bel
    have h8i : ¬ (80 : Int) < (cs.length : Int) := by omega
    have h4i : (40 : Int) < (na : Int) := by omega
    clear S h8 h4
    go_enter Tryz.func4, Tryz.ntmps4
    go_wp2_with fail
    go_ret
    exact ⟨ret_bool HV.out.symm, SE.out⟩
  have HV := Lib.hid (show vastL na cs = cs.any vastC by unfold vastL; rw [decide_eq_false h4, decide_eq_false h8]; rfl)
  have h8i : ¬ (80 : Int) < (cs.length : Int) := by omega
  have h4i : ¬ (40 : Int) < (na : Int) := by omega
  clear h8 h4
  go_enter Tryz.func4, Tryz.ntmps4
  go_wp2_with fail
  rw [← hbx]
  generalize w.alloc (.cells #[.slice aa na ca, .slice co cs.length cc] 25) = w0 at S hsz ⊢
  clear hbx
  go_loopw [3] (fun i wr => ∃ k : Nat, k ≤ cs.length ∧ i = .int .i64 k ∧ (∀ (j : Nat) c, j < k → cs[j]? = some c → vastC c = false) ∧ bx + 1 ≤ wr.heap.size ∧ St w wr [.box bx #[.slice aa na ca, .slice co cs.length cc] 25]) (fun i _ => cs.length - (intOf i).toNat)
  case atStart => exact ⟨0, by omega, rfl, fun j t hj _ => by omega, by omega, S⟩
  case round =>
    clear S
    obtain ⟨k, hk, rfl, hno, z1, S⟩ := hrel
    have HNO := Lib.hid hno
    clear hno
    by_cases hlt : k < cs.length
    · have hlti : (k : Int) < (cs.length : Int) := by omega
      obtain ⟨b, off, ka, sa, rfl, hpb, c0, hfr, hml⟩ := (HR.out.kept S.bel).claim hlt
      obtain ⟨⟨x0, _⟩, x1, _⟩ := S.two 0
      have HFR := Lib.hid hfr
      obtain ⟨c, hc⟩ : ∃ c, c = cs[k] := ⟨_, rfl⟩
      rw [← hc] at HFR c0
      have hck : cs[k]? = some c := by rw [hc]; exact List.getElem?_eq_getElem hlt
      have hT : (treesF c).length ≤ 2000000 := by rw [treesF_length]; have := HF.out k c hck; omega
      have HCK := Lib.hid hck; have HC := Lib.hid hc
      clear hfr hml hc hck
      go_wp2_with fail
      refine (S.trees (trees64 c p ka sa wr HFR.out (HF.out k c HCK.out) (fun b hb => by have := HP.out b hb; have := HBX.out; omega))).mono ?_
      rintro e w2 ⟨ro, rsp, rfl, z2, S2⟩
      clear S x0 x1 c0
      by_cases h40 : 40 < (treesF c).length
      · have HVT := Lib.hid (show vastL na cs = true by rw [HV.out]; exact any_take HCK.out (by unfold vastC; rw [decide_eq_true h40]; rfl))
        have h40i : (40 : Int) < ((treesF c).length : Int) := by omega
        have SE := Lib.hid S2.bel
        clear S2 h40
        go_wp2_with fail
        go_ret
        exact ⟨ret_bool HVT.out.symm, SE.out⟩
      · have h40i : ¬ (40 : Int) < ((treesF c).length : Int) := by omega
        have HVC := Lib.hid (show vastC c = (treesF c).any bigT by unfold vastC; rw [decide_eq_false h40]; rfl)
        clear h40
        go_wp2_with fail
        go_loopw [5] (fun i wr2 => ∃ m : Nat, m ≤ (treesF c).length ∧ i = .int .i64 m ∧ (∀ (j : Nat) t, j < m → (treesF c)[j]? = some t → bigT t = false) ∧ bx + 1 ≤ wr2.heap.size ∧ St w wr2 [.box bx #[.slice aa na ca, .slice (some ⟨b, off, none⟩) cs.length cc] 25, .rowE treeE (fun b => p b ∨ wr.heap.size ≤ b) ro (treesF c)]) (fun i _ => (treesF c).length - (intOf i).toNat)
        case atStart => exact ⟨0, by omega, rfl, fun j t hj _ => by omega, by omega, S2⟩
        case round =>
          clear S2
          obtain ⟨m, hm, rfl, hno, z3, S⟩ := hrel
          have HNM := Lib.hid hno
          clear hno
          by_cases hlt2 : m < (treesF c).length
          · have hlti2 : (m : Int) < ((treesF c).length : Int) := by omega
            obtain ⟨b2, off2, ka2, sa2, rfl, hpb2, d0, d1, ht⟩ := (S.rowE treeE 1).tree hlt2
            have HT := Lib.hid ht
            clear ht
            go_wp2_with fail
            refine (S.quiet (vast15 (treesF c)[m] _ _ (by have := HS.out k c HCK.out m _ (List.getElem?_eq_getElem hlt2); omega) HT.out.at)).mono ?_
            rintro e w3 ⟨rfl, z4, S3⟩
            clear S d0 d1
            cases hv : decide ((200 : Int) < (treesF c)[m].size) with
            | true =>
              have HVT := Lib.hid (show vastL na cs = true by rw [HV.out]; exact any_take HCK.out (by rw [HVC.out]; exact any_take (List.getElem?_eq_getElem hlt2) hv))
              have SE := Lib.hid S3.bel
              clear S3 hv
              go_wp2_with fail
              go_ret
              exact ⟨ret_bool HVT.out.symm, SE.out⟩
            | false =>
              have HN2 := Lib.hid (no_step hlt2 HNM.out hv)
              clear hv
              go_wp2_with fail
              go_roundw
              case rel => exact ⟨m + 1, by omega, by go_num, HN2.out, by omega, S3⟩
              case measure => simp [intOf] <;> omega
          · obtain rfl : m = (treesF c).length := by omega
            have HN2 := Lib.hid (no_step hlt HNO.out (by rw [← HC.out, HVC.out]; exact any_none HNM.out))
            have S4 := S.pick [0]
            clear S
            go_wp2_with fail
            go_roundw
            case rel => exact ⟨k + 1, by omega, by go_num, HN2.out, by omega, S4⟩
            case measure => simp [intOf] <;> omega
    · obtain rfl : k = cs.length := by omega
      have HVT := Lib.hid (show vastL na cs = false by rw [HV.out]; exact any_none HNO.out)
      have SE := Lib.hid S.bel
      obtain ⟨_, x1, _⟩ := S.two 0
      clear S
      go_wp2_with fail
      go_ret
      exact ⟨ret_bool HVT.out.symm, SE.out⟩
end Go.Proofs.YtidgnbdlfngeaaaGreatDoor
