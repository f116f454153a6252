/-
  Keys of the builder's maps; rows of choices; what the builder's maps say.
-/
import Derived.Test.YtacaakcpkgipfaaProg
import Derived.Test.YtacaakcpkgipfaaTd7
import Derived.Test.YtacaakcpkgipfaaTd3
import Derived.Laws.BytesArg
import Derived.DeepKeys5
import Derived.RegionTactic
namespace Go.Proofs.Ytacaakcpkgipfaa
open Go.RowKit Go.Shelf Go.Maps
set_option linter.unusedVariables false
set_option linter.unusedSimpArgs false
set_option maxHeartbeats 400000

def chE : Elt Ch where
  ty := 72
  n := 3
  is p w cs a := cs = [.int .i64 a.1, .int .i64 a.2.1, .int .i64 a.2.2]
  pos := by omega
  len := fun e => by rw [e]; rfl
  one := fun e u hu => by rw [e] at hu; simp at hu; rcases hu with rfl | rfl | rfl <;> rfl
  keep := fun hk e => e
theorem Elt.Row.ch {p : Nat → Prop} {w : World} {ao : Option Addr} {js : List Ch} (h : chE.Row p w ao js) {i : Nat} (hi : i < js.length) : ∃ b off, ao = some ⟨b, off, none⟩ ∧ p b ∧
    w.cell? ⟨b, off + i * 3, none⟩ = some (.int .i64 js[i].1) ∧ w.cell? ⟨b, off + i * 3 + 1, none⟩ = some (.int .i64 js[i].2.1) ∧ w.cell? ⟨b, off + i * 3 + 2, none⟩ = some (.int .i64 js[i].2.2) := by
  obtain ⟨b, off, cs, e, hp, hc, rfl⟩ := h i js[i] (List.getElem?_eq_getElem hi)
  exact ⟨b, off, e, hp, hc 0 _ rfl, hc 1 _ rfl, hc 2 _ rfl⟩
theorem infoC : (Try.prog.info? 72).map (fun i => (i.zero, i.size, i.bytes)) = some (some (.agg #[.int .i64 0, .int .i64 0, .int .i64 0]), 3, 24) := by kernel_rfl
theorem Elt.Row.byte {p : Nat → Prop} {w : World} {ao : Option Addr} {js : List Nat} (h : byteE.Row p w ao js) {i : Nat} (hi : i < js.length) : ∃ b off, ao = some ⟨b, off, none⟩ ∧ p b ∧ w.cell? ⟨b, off + i, none⟩ = some (byV js[i]) := by
  obtain ⟨b, off, cs, e, hp, hc, rfl⟩ := h i js[i] (List.getElem?_eq_getElem hi)
  exact ⟨b, off, e, hp, by have := hc 0 _ rfl; simpa [byteE] using this⟩

theorem keyedS : Keyed Try.prog 9 := string_keyed Try.underlying9
theorem sizeP : Try.prog.types.size = 120 := by kernel_rfl
theorem keyedC : Keyed Try.prog 72 := Keyed.of_law (deep_law_gate (P := Try.prog) (by kernel_rfl) (by have h := sizeP; show Try.prog.types.size + 2 ≤ 10000; rw [h]; decide) (by have h := sizeP; show 72 < Try.prog.types.size; rw [h]; decide) (by kernel_rfl) (by kernel_rfl))
theorem keyLits_int (d : Nat) (n : Int) (h : (Lit.int .i64 n).wf = true) : Try.prog.keyLits (d + 1) 3 [.int .i64 n] = some [.int .i64 n] := by
  unfold Program.keyLits
  simp only [Try.underlying3]
  rw [if_pos ⟨by trivial, h⟩]
def valC (c : Ch) : Value := .agg #[.int .i64 c.1, .int .i64 c.2.1, .int .i64 c.2.2]
def litsC (c : Ch) : List Lit := [.int .i64 c.1, .int .i64 c.2.1, .int .i64 c.2.2]
def keyC (c : Ch) : Lit := .string (keyBytes (litsC c))
def okC (c : Ch) : Prop := c.1 ≤ 1000 ∧ c.2.1 ≤ 1000 ∧ c.2.2 ≤ 1000
theorem wf_small {n : Nat} (h : n ≤ 1000) : (Lit.int .i64 (n : Int)).wf = true := by
  simp only [Lit.wf, IntKind.min, IntKind.max, IntKind.signed, IntKind.bits, Bool.and_eq_true, decide_eq_true_eq, if_true]
  omega
set_option maxRecDepth 100000 in
theorem keyOf_C {c : Ch} (h : okC c) : keyOf Try.prog 72 (valC c) = some (keyC c) := by
  obtain ⟨h1, h2, h3⟩ := h
  have e1 : Try.prog.keyType 72 = true := by kernel_rfl
  have e2 : Try.prog.types.size = 119 + 1 := by kernel_rfl
  have e3 : Try.prog.cellsOf 72 = 3 := by kernel_rfl
  have e4 : Try.prog.cellsOf 3 = 1 := by kernel_rfl
  unfold keyOf
  simp only [Try.underlying72]
  rw [if_pos (by simp [e1, Value.formed, Try.underlying72, e3, valC]), e2]
  unfold Program.keyLits
  simp only [Try.underlying72, valC, Value.cells]
  rw [if_pos (by rw [e3]; exact ⟨rfl, by kernel_rfl⟩)]
  simp only [e4, List.drop_zero, List.drop_succ_cons, List.take_succ_cons, List.take_zero, List.mapM_cons, List.mapM_nil, keyLits_int _ _ (wf_small h1), keyLits_int _ _ (wf_small h2), keyLits_int _ _ (wf_small h3)]
  rfl
theorem keyC_inj {c d : Ch} (hc : okC c) (hd : okC d) (h : keyC c = keyC d) : c = d := by
  unfold keyC at h
  have h1 := Lit.string.inj h
  have h2 := keyBytes_inj (l := litsC c) (l' := litsC d) ⟨rfl, rfl, rfl, trivial⟩ (fun a ha => by
    simp only [litsC, List.mem_cons, List.not_mem_nil, or_false] at ha
    rcases ha with rfl | rfl | rfl
    · exact wf_small hc.1
    · exact wf_small hc.2.1
    · exact wf_small hc.2.2) (fun a ha => by
    simp only [litsC, List.mem_cons, List.not_mem_nil, or_false] at ha
    rcases ha with rfl | rfl | rfl
    · exact wf_small hd.1
    · exact wf_small hd.2.1
    · exact wf_small hd.2.2) h1
  simp only [litsC, List.cons.injEq, Lit.int.injEq, true_and, and_true] at h2
  obtain ⟨a, b, e⟩ := c
  obtain ⟨a', b', e'⟩ := d
  simp only at h2
  obtain ⟨h3, h4, h5⟩ := h2
  have : a = a' := by omega
  have : b = b' := by omega
  have : e = e' := by omega
  subst_vars; rfl
def strT (t : List Nat) : ByteArray := strOfNums (t.map fun n : Nat => (n : Int))
def keyS (t : List Nat) : Lit := .string (strT t).data.toList
theorem strT_size (t : List Nat) : (strT t).size = t.length := by unfold strT; rw [strOfNums_size]; simp
theorem keyOf_S {t : List Nat} (h : t.length ≤ 1000) : keyOf Try.prog 9 (.string (strT t)) = some (keyS t) := by
  unfold keyOf
  simp only [Try.underlying9]
  unfold mapKey
  simp [Try.underlying9, keyS, strT_size]
  unfold maxLen
  omega
theorem keyS_inj {t u : List Nat} (ht : ∀ x ∈ t, x < 2) (hu : ∀ x ∈ u, x < 2) (h : keyS t = keyS u) : t = u := by
  unfold keyS strT at h
  rw [strOfNums_data, strOfNums_data] at h
  have h1 := Lit.string.inj h
  rw [List.map_map, List.map_map] at h1
  refine List.ext_getElem (by have := congrArg List.length h1; simpa using this) fun i h2 h3 => ?_
  have h4 := congrArg (fun l => l[i]?) h1
  simp [h2, h3] at h4
  have h5 := ht _ (List.getElem_mem h2)
  have h6 := hu _ (List.getElem_mem h3)
  have h7 := congrArg UInt8.toNat h4
  simp [UInt8.toNat_ofNat'] at h7
  omega
/-- string(t) -/
theorem conv_S (p : Nat → Prop) (ao : Option Addr) (t : List Nat) (cp : Nat) (w : World) (h : byteE.Row p w ao t) (h0 : 0 < t.length) : (convert 63 9 (.slice ao t.length cp)).run Try.prog w = .ok (.string (strT t)) w := by
  obtain ⟨b, off, rfl, _, _⟩ := h.byte h0
  refine run_convert_bytes_arg w 63 5 Try.underlying63 Try.underlying5 b off t.length cp _ (by simp) (fun i hi => ?_) 9 Try.underlying9
  obtain ⟨b2, off2, e, _, hc⟩ := h.byte hi
  simp only [Option.some.injEq, Addr.mk.injEq, and_true] at e
  obtain ⟨rfl, rfl⟩ := e
  rw [hc]
  simp [byV, hi]
/-- what the two maps say -/
def KInv (fk : Lit → Option Int) (cs : List Ch) : Prop := ∀ c : Ch, okC c → fk (keyC c) = (cs.idxOf? c).map (fun j => ((j + 2 : Nat) : Int))
def EInv (fs : Lit → Option Int) (seen : List (List Nat × Nat)) : Prop := ∀ u : List Nat, (∀ x ∈ u, x < 2) → fs (keyS u) = (seen.lookup u).map (fun i : Nat => (i : Int))
theorem KInv.nil : KInv (fun _ => none) [] := fun c _ => rfl
theorem EInv.nil : EInv (fun _ => none) [] := fun c _ => rfl
theorem EInv.put {fs : Lit → Option Int} {seen : List (List Nat × Nat)} (h : EInv fs seen) {t : List Nat} (ht : ∀ x ∈ t, x < 2) (i : Nat) : EInv (fput fs (keyS t) (i : Int)) ((t, i) :: seen) := fun u hu => by
  unfold fput
  by_cases e : keyS u = keyS t
  · have := keyS_inj hu ht e
    subst this
    rw [if_pos rfl]; simp
  · rw [if_neg e, h u hu, List.lookup_cons]
    have e2 : (u == t) = false := by
      rw [beq_eq_false_iff_ne]
      intro e3; exact e (by rw [e3])
    rw [e2]
theorem idxOf_snoc {cs : List Ch} {c d : Ch} (hn : cs.idxOf? c = none) : (cs ++ [c]).idxOf? d = if d = c then some cs.length else cs.idxOf? d := by
  unfold List.idxOf? at hn ⊢
  rw [List.findIdx?_append]
  by_cases e : d = c
  · subst e
    rw [if_pos rfl, hn]
    simp
  · rw [if_neg e]
    cases h : List.findIdx? (fun x => x == d) cs with
    | some j => simp
    | none =>
      have : (c == d) = false := by rw [beq_eq_false_iff_ne]; exact fun e2 => e e2.symm
      simp [List.findIdx?_cons, this]
theorem KInv.put {fk : Lit → Option Int} {cs : List Ch} (h : KInv fk cs) {c : Ch} (hc : okC c) (hn : cs.idxOf? c = none) : KInv (fput fk (keyC c) ((cs.length + 2 : Nat) : Int)) (cs ++ [c]) := fun d hd => by
  unfold fput
  rw [idxOf_snoc hn]
  by_cases e : keyC d = keyC c
  · have := keyC_inj hd hc e
    subst this
    rw [if_pos rfl, if_pos rfl]; rfl
  · rw [if_neg e, h d hd, if_neg (fun e2 => e (by rw [e2]))]
end Go.Proofs.Ytacaakcpkgipfaa
