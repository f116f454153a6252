/-
  Walks: the trees of a claim.
-/
import Derived.Test.YteekoclfpehnpaaProg
import Derived.Test.YteekoclfpehnpaaE1
namespace Go.Proofs.Yteekoclfpehnpaa
open Go.RowKit Go.Shelf
set_option linter.unusedVariables false
set_option maxHeartbeats 400000

def treesF : List Fc → List T
  | [] => []
  | f :: r => f.l :: f.r :: treesF r
theorem treesF_append : ∀ (a b : List Fc), treesF (a ++ b) = treesF a ++ treesF b
  | [], b => rfl
  | f :: r, b => by simp [treesF, treesF_append r b]
theorem treesF_take {fs : List Fc} {k : Nat} (h : k < fs.length) : treesF (fs.take (k + 1)) = treesF (fs.take k) ++ [fs[k].l, fs[k].r] := by
  rw [List.take_succ_eq_append_getElem h, treesF_append]; simp [treesF]
theorem treesF_length : ∀ (fs : List Fc), (treesF fs).length = 2 * fs.length
  | [] => rfl
  | f :: r => by simp [treesF, treesF_length r]; omega
theorem info44 : (Try.prog.info? 44).map (fun i => (i.zero, i.size, i.bytes)) = some (some (.agg #[.int .i64 0, .slice none 0 0]), 2, 32) := by kernel_rfl

theorem Elt.Row.fact {p : Nat → Prop} {w : World} {ao : Option Addr} {fs : List Fc} (h : factE.Row p w ao fs) {i : Nat} (hi : i < fs.length) : ∃ b off k sp k2 sp2, ao = some ⟨b, off, none⟩ ∧ p b ∧
    w.cell? ⟨b, off + i * 5, none⟩ = some (.bool fs[i].neg) ∧ w.cell? ⟨b, off + i * 5 + 1, none⟩ = some (.int .i64 fs[i].l.head) ∧ w.cell? ⟨b, off + i * 5 + 2, none⟩ = some (.slice k fs[i].l.kids.length (fs[i].l.kids.length + sp)) ∧
    w.cell? ⟨b, off + i * 5 + 3, none⟩ = some (.int .i64 fs[i].r.head) ∧ w.cell? ⟨b, off + i * 5 + 4, none⟩ = some (.slice k2 fs[i].r.kids.length (fs[i].r.kids.length + sp2)) ∧
    TreeP p w (.agg #[.int .i64 fs[i].l.head, .slice k fs[i].l.kids.length (fs[i].l.kids.length + sp)]) fs[i].l ∧ TreeP p w (.agg #[.int .i64 fs[i].r.head, .slice k2 fs[i].r.kids.length (fs[i].r.kids.length + sp2)]) fs[i].r := by
  obtain ⟨b, off, cs, e, hp, hc, k, sp, k2, sp2, rfl, h1, h2⟩ := h i fs[i] (List.getElem?_eq_getElem hi)
  exact ⟨b, off, k, sp, k2, sp2, e, hp, hc 0 _ rfl, hc 1 _ rfl, hc 2 _ rfl, hc 3 _ rfl, hc 4 _ rfl, h1, h2⟩

set_option maxRecDepth 100000 in
set_option maxHeartbeats 4000000 in
theorem trees64 (fs : List Fc) (p : Nat → Prop) (ao : Option Addr) (sp : Nat) (w : World) (h : factE.Row p w ao fs) (hn : fs.length ≤ 1000000) (hp : ∀ b, p b → b < w.heap.size) :
    Calls Try.prog 64 #[.agg #[.slice ao fs.length (fs.length + sp)]] w fun e w' => ∃ ro sp, e = .returned (.slice ro (treesF fs).length ((treesF fs).length + sp)) ∧ treeE.Row (fun b => p b ∨ w.heap.size ≤ b) w' ro (treesF fs) ∧ Below w.heap.size w w' := by
  have HR := Lib.hid h; have HP := Lib.hid hp
  obtain ⟨i44, gi, gz0, gz1, gz2⟩ := info_parts info44
  obtain ⟨bx, hbx⟩ : ∃ b, b = w.heap.size := ⟨_, rfl⟩
  have S := ((St.start w).box hbx.symm #[.slice ao fs.length (fs.length + sp)] 24).add (.owns treeE (bx + 1) (fun b => p b ∨ bx ≤ b) (.slice none 0 0) []) (Elt.Own.nil _ _ _ _)
  have hsz : (w.alloc (.cells #[.slice ao fs.length (fs.length + sp)] 24)).heap.size = bx + 1 := by simp [hbx]
  have HBX := Lib.hid hbx
  clear h hp
  go_enter Try.func64, Try.ntmps64
  go_wp2_with fail
  rw [← hbx]
  clear hbx
  generalize w.alloc (.cells #[.slice ao fs.length (fs.length + sp)] 24) = w0 at S hsz ⊢
  go_loopw [3, 4] (fun o i wr => ∃ k : Nat, k ≤ fs.length ∧ i = .int .i64 k ∧ bx + 1 ≤ wr.heap.size ∧ St w wr [.box bx #[.slice ao fs.length (fs.length + sp)] 24, .owns treeE (bx + 1) (fun b => p b ∨ bx ≤ b) o (treesF (fs.take k))]) (fun _ i _ => fs.length - (intOf i).toNat)
  case atStart => exact ⟨0, by omega, rfl, by omega, S⟩
  case round =>
    obtain ⟨k, hk, rfl, hws, S⟩ := hrel
    obtain ⟨x0, _⟩ := S.one 0
    by_cases hlt : k < fs.length
    · have HT := Lib.hid (treesF_take hlt)
      have hlk : (treesF (fs.take k)).length = 2 * k := by rw [treesF_length]; simp; omega
      obtain ⟨b, off, ka, sa, kb, sb, rfl, hpb, c0, c1, c2, c3, c4, ht1, ht2⟩ := (HR.out.kept S.bel).fact hlt
      have HT1 := Lib.hid ht1
      clear c0 c3 c4 ht1 ht2
      have hlti : (k : Int) < (fs.length : Int) := by omega
      go_wp2_with (at_builtin; refine wpList_app rfl (.tmp 12) (.tmp 19) 42 rfl treeE S 1 rfl (x := fs[k].l) (q := p) (p' := fun b => p b ∨ bx ≤ b) ⟨ka, sa, rfl, HT1.out⟩ Try.underlying42 gi gz0 gz1 gz2 rfl rfl rfl rfl ?c1 ?c2 ?c3 ?c4 ?c5 ?c6 ?c7 ?_)
      case c1 => unfold maxLen; omega
      case c2 => omega
      case c3 => omega
      case c4 => have := HBX.out; omega
      case c5 => intro b h1 h2; simp only [offs, offAll, Fct.box, and_true]; omega
      case c6 => intro b h1 h2; have h3 := HP.out b h1; have h4 := (S.ownlt treeE 1 rfl b h2).1; have := HBX.out; omega
      case c7 => intro b h1; rcases h1 with h1 | h1; exact h1; exact .inl h1
      intro gg cap w3 S2 hs3 hgg _
      change St w w3 [.box bx _ 24, .owns treeE (bx + 1) (fun b => p b ∨ bx ≤ b) _ _] at S2
      obtain ⟨y0, _⟩ := S2.one 0
      have HRR := HR.out.kept S2.bel
      obtain ⟨b', off', ka', sa', kb', sb', e', _, _, _, _, d3, d4, _, ht2⟩ := HRR.fact hlt
      obtain ⟨rfl, rfl⟩ : b = b' ∧ off = off' := by simpa using e'
      have HT2 := Lib.hid ht2
      have hl2 : (treesF (fs.take k) ++ [fs[k].l]).length = 2 * k + 1 := by simp [hlk]
      clear ht2 e' HRR
      go_wp2_with (at_builtin; refine wpList_app rfl (.tmp 21) (.tmp 28) 42 rfl treeE S2 1 rfl (x := fs[k].r) (q := p) (p' := fun b => p b ∨ bx ≤ b) ⟨kb', sb', rfl, HT2.out⟩ Try.underlying42 gi gz0 gz1 gz2 rfl rfl ?v1 rfl ?c1 ?c2 ?c3 ?c4 ?c5 ?c6 ?c7 ?_)
      case v1 => rfl
      case c1 => unfold maxLen; omega
      case c2 => omega
      case c3 => omega
      case c4 => have := HBX.out; omega
      case c5 => intro b h1 h2; simp only [offs, offAll, Fct.box, and_true]; omega
      case c6 => intro b h1 h2; have h3 := HP.out b h1; have h4 := (S2.ownlt treeE 1 rfl b h2).1; have := HBX.out; omega
      case c7 => intro b h1; rcases h1 with h1 | h1; exact h1; exact .inl h1
      intro gg2 cap2 w4 S3 hs4 hgg2 _
      rw [← HT.out] at S3
      go_wp2_with fail
      go_roundw
      case rel => exact ⟨k + 1, by omega, by go_num, by omega, S3⟩
      case measure => simp [intOf] <;> omega
    · obtain rfl : k = fs.length := by omega
      have HO := Lib.hid (S.owns treeE 1)
      have HB := Lib.hid S.bel
      rw [List.take_length] at HO
      obtain ⟨ro, spo, rfl, hrow, hml⟩ := HO.out.row (fun b h => .inr (by omega))
      have HROW := Lib.hid hrow
      clear hrow HO S
      go_wp2_with fail
      go_ret
      exact ⟨ro, spo, rfl, by rw [← HBX.out]; exact HROW.out, HB.out⟩
end Go.Proofs.Yteekoclfpehnpaa
