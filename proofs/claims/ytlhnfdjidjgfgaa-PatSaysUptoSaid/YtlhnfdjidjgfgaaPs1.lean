/-
  Walk: the document's subs: what stands in a tree, each once, behind what came.
-/
import Derived.Test.YtlhnfdjidjgfgaaProg
import Derived.Test.YtlhnfdjidjgfgaaT25
import Derived.Deep.CutBlock
import Derived.Deep.DeepCutAuto
import Derived.Test.YtlhnfdjidjgfgaaPb3
import Derived.RegionTactic
import Derived.Lib.QuietBelow
import Derived.BigQuiet
namespace Go.Proofs.Ytlhnfdjidjgfgaa
open Go.RowKit Go.Shelf
set_option linter.unusedVariables false
set_option maxHeartbeats 400000

theorem infoS38 : (Try.prog.info? 38).map (fun i => (i.zero, i.size, i.bytes)) = some (some (.agg #[.int .i64 0, .slice none 0 0]), 2, 32) := by kernel_rfl
def SubsP (w0 : World) (B : Nat) (p : Nat → Prop) (o : Value) (R : List T) (r : List Fct) (w : World) (e : Ending) (w' : World) : Prop :=
  ∃ o', e = .returned o' ∧ w.heap.size ≤ w'.heap.size ∧ (∀ b, o'.ownBlock = some b → o.ownBlock = some b ∨ w.heap.size ≤ b) ∧ St w0 w' (.owns treeE B p o' R :: r)
theorem mem_take_succ {l : List T} {k : Nat} {t : T} (h : k < l.length) : (decide (t ∈ l.take k) || decide (l[k] = t)) = decide (t ∈ l.take (k + 1)) := by
  rw [List.take_succ_eq_append_getElem h, Bool.eq_iff_iff]
  simp only [Bool.or_eq_true, decide_eq_true_eq, List.mem_append, List.mem_singleton]
  exact or_congr Iff.rfl ⟨Eq.symm, Eq.symm⟩
set_option maxRecDepth 100000 in
set_option maxHeartbeats 4000000 in
theorem subs69 (t : T) : ∀ (p : Nat → Prop) (w0 w : World) (B : Nat) (r : List Fct) (o v : Value) (had : List T), (∀ b, p b → b < w0.heap.size) → w0.heap.size ≤ B → B ≤ w.heap.size → TreeP p w0 v t → St w0 w (.owns treeE B p o had :: r) → (∀ b, (o.ownBlock = some b ∨ w.heap.size ≤ b) → offAll b r) → had.length + t.size ≤ 100000000 →
    Calls Try.prog 69 #[v, o] w (SubsP w0 B p o (t.pre.foldl addT had) r w) := by
  induction t using T.ind with
  | h t ih =>
  intro p w0 w B r o v had hp hB hBw ht S hoff hsz
  obtain ⟨ao, sp, rfl, hr, hml⟩ := ht.open
  have hml : t.kids.length ≤ 9223372036854775807 := hml
  have HTT := Lib.hid ht
  have HR := Lib.hid hr; have IH := Lib.hid ih; have HP := Lib.hid hp; have HO := Lib.hid hoff
  clear ht hr ih hp hoff
  obtain ⟨i38, gi, gz0, gz1, gz2⟩ := info_parts infoS38
  obtain ⟨bx, hbx⟩ : ∃ b, b = w.heap.size := ⟨_, rfl⟩
  have hown := S.ownlt treeE 0
  have OL := Lib.hid hown
  obtain ⟨oa, osp, rfl, hrq, hol⟩ := (S.owns treeE 0).rowQ
  have S1 := (S.boxH hbx.symm #[.int .i64 t.head, .slice ao t.kids.length (t.kids.length + sp)] 38).swap
  have hsz1 : (w.alloc (.cells #[.int .i64 t.head, .slice ao t.kids.length (t.kids.length + sp)] 38)).heap.size = bx + 1 := by simp [hbx]
  have hhl : had.length ≤ 100000000 := by omega
  have HHL := Lib.hid hhl
  have HSZ := Lib.hid hsz
  clear hown S hrq hsz
  go_enter Try.func69, Try.ntmps69
  go_wp2_with fail
  rw [← hbx]
  refine S1.genC (z := bx + 1) (by omega) ?_
  intro w1 z1 S
  have HBX := Lib.hid hbx
  clear S1 hbx hsz1
  go_loopw [5, 6] (fun is i wr => ∃ k : Nat, k ≤ had.length ∧ i = .int .i64 k ∧ (∃ d : Bool, is = .bool d ∧ Hid (d = decide (t ∈ had.take k))) ∧ bx + 1 ≤ wr.heap.size ∧ St w0 wr (.owns treeE B p (.slice oa had.length (had.length + osp)) had :: .box bx #[.int .i64 t.head, .slice ao t.kids.length (t.kids.length + sp)] 38 :: r)) (fun _ i _ => had.length - (intOf i).toNat)
  case atStart => exact ⟨0, by omega, rfl, ⟨false, rfl, Lib.hid (by simp)⟩, z1, S⟩
  case round =>
    clear S
    obtain ⟨k, hk, rfl, ⟨d, rfl, HD⟩, z2, S⟩ := hrel
    obtain ⟨⟨x0, _⟩, x1, _⟩ := S.two 1
    by_cases hlt : k < had.length
    · have hlti : (k : Int) < (had.length : Int) := by omega
      obtain ⟨oa', osp', e', hrow, _⟩ := (S.owns treeE 0).rowQ
      obtain ⟨rfl, _⟩ : oa = oa' ∧ had.length + osp = had.length + osp' := by simpa using e'
      obtain ⟨b, off, ka, sa, rfl, _, c0, c1, hta⟩ := hrow.tree hlt
      have HMT := Lib.hid (mem_take_succ (t := t) hlt)
      rw [gK_get hlt] at c0 c1 hta
      obtain ⟨X, hX⟩ : ∃ X, X = had[k] := ⟨_, rfl⟩
      rw [← hX] at c0 c1 hta HMT
      rw [← HD.out] at HMT
      have TX := Lib.hid hta.at
      have TT := Lib.hid (HTT.out.at.kept S.bel)
      have r0 := cell_regrown x0; have r1 := cell_regrown x1; have r2 := cell_regrown c0; have r3 := cell_regrown c1
      clear hrow e' hX hta HD x0 x1 c0 c1
      cases d with
      | true =>
        go_wp2_with fail
        refine wp_region_quiet_below (by kernel_rfl) (by kernel_rfl) ?_
        repeat (go_big_quiet_step (fail))
        refine wpQuiet_nil ?_
        intro _ hw'
        obtain ⟨⟨dq, osq⟩, hw''⟩ := hw'
        subst hw''
        have S2 := S.regrown dq osq
        have hb2 : bx + 1 ≤ (Go.Sort.grow (redrawn wr dq) osq).heap.size := Nat.le_trans z2 (below_regrown wr dq osq).size
        clear r0 r1 r2 r3 S
        go_wp2_with fail
        go_roundw
        case rel => exact ⟨k + 1, by omega, by go_num, ⟨true, rfl, Lib.hid (by rw [← HMT.out]; rfl)⟩, hb2, S2⟩
        case measure => simp [intOf] <;> omega
      | false =>
        have CA := Lib.hid (fun d os => Calls.regrown_of (same22 X t (.agg #[.int .i64 X.head, .slice ka X.kids.length (X.kids.length + sa)]) (.agg #[.int .i64 t.head, .slice ao t.kids.length (t.kids.length + sp)]) (Go.Sort.grow (redrawn wr d) os) (TX.out.kept (below_regrown wr d os)) (TT.out.kept (below_regrown wr d os))))
        go_wp2_with fail
        refine wp_region_quiet_below (by kernel_rfl) (by kernel_rfl) ?_
        repeat (go_big_quiet_step (exact CA.out _ _))
        refine wpQuiet_nil ?_
        intro _ hw'
        obtain ⟨⟨dq, osq⟩, hw''⟩ := hw'
        subst hw''
        have S2 := S.regrown dq osq
        have hb2 : bx + 1 ≤ (Go.Sort.grow (redrawn wr dq) osq).heap.size := Nat.le_trans z2 (below_regrown wr dq osq).size
        clear r0 r1 r2 r3 S CA
        go_wp2_with fail
        go_roundw
        case rel => exact ⟨k + 1, by omega, by go_num, ⟨_, rfl, Lib.hid (by rw [← HMT.out]; rfl)⟩, hb2, S2⟩
        case measure => simp [intOf] <;> omega
    · obtain rfl : k = had.length := by omega
      rw [List.take_length] at HD
      obtain ⟨A, hA⟩ : ∃ A, A = addT had t := ⟨_, rfl⟩
      have HAL := Lib.hid (show A.length ≤ had.length + 1 by rw [hA]; exact addT_len had t)
      have HFO := Lib.hid (show t.pre.foldl addT had = (preL t.kids).foldl addT A by rw [T.pre_eq, List.foldl_cons, ← hA])
      have HTP := Lib.hid (HTT.out.kept S.bel)
      have hhl2 := HHL.out
      go_upto_if 24 with fail
      go_cut [1] (fun u W => Hid (∀ b, u.ownBlock = some b → (Value.slice oa had.length (had.length + osp)).ownBlock = some b ∨ bx + 1 ≤ b) ∧ bx + 1 ≤ W.heap.size ∧ St w0 W (.owns treeE B p u A :: .box bx #[.int .i64 t.head, .slice ao t.kids.length (t.kids.length + sp)] 38 :: r))
      case first =>
        cases d with
        | true =>
          have HAD := Lib.hid (show A = had by
            have h : t ∈ had := by simpa using HD.out.symm
            rw [hA]; simp [addT, h])
          go_wp2_with fail
          go_meet
          case rel => exact ⟨Lib.hid (fun b hb => .inl hb), z2, by rw [HAD.out]; exact S⟩
        | false =>
          have HAD := Lib.hid (show A = had ++ [t] by
            have h : t ∉ had := by simpa using HD.out.symm
            rw [hA]; simp [addT, h])
          go_wp2_with (at_builtin; refine wpList_app rfl (.tmp 25) (.tmp 27) 32 rfl treeE S 0 rfl (x := t) (q := p) (p' := p) ⟨ao, sp, rfl, HTP.out⟩ Try.underlying32 gi gz0 gz1 gz2 rfl rfl ?v1 ?v2 ?c1 ?c2 ?c3 ?c4 ?c5 ?c6 ?c7 ?_)
          case v1 => rfl
          case v2 => rfl
          case c1 => unfold maxLen; omega
          case c2 => omega
          case c3 => have := HBX.out; omega
          case c4 => exact hB
          case c5 => intro b h1 h2 h3; exact ⟨by have := (OL.out b h1).2; have := HBX.out; simp only [Fct.box]; omega, HO.out b (.inl h1)⟩
          case c6 => intro b h1 h2; have h3 := HP.out b h1; have h4 := (S.ownlt treeE 0 rfl b h2).1; omega
          case c7 => intro b h; rcases h with h | h <;> exact h
          intro gg cap w3 S3 hs3 hgg hat
          change St w0 w3 (.owns treeE B p (.slice (some ⟨gg, 0, none⟩) (had.length + 1) cap) (had ++ [t]) :: .box bx _ 38 :: r) at S3
          rw [← HAD.out] at S3
          clear S
          go_wp2_with fail
          go_meet
          case rel => exact ⟨Lib.hid (fun b hb => by
            obtain rfl : gg = b := by simpa [Value.ownBlock] using hb
            rcases hat with h | h
            · exact .inl h
            · right; have := HBX.out; omega), by omega, S3⟩
      case rest =>
      obtain ⟨HOA, z4, S⟩ := hcut
      clear hA HD
      go_wp2_with fail
      go_loopw [1, 7] (fun u i wr => ∃ k : Nat, k ≤ t.kids.length ∧ i = .int .i64 k ∧ (∀ b, u.ownBlock = some b → (Value.slice oa had.length (had.length + osp)).ownBlock = some b ∨ bx + 1 ≤ b) ∧ bx + 1 ≤ wr.heap.size ∧ St w0 wr (.owns treeE B p u ((preL (t.kids.take k)).foldl addT A) :: .box bx #[.int .i64 t.head, .slice ao t.kids.length (t.kids.length + sp)] 38 :: r)) (fun _ i _ => t.kids.length - (intOf i).toNat)
      case atStart => exact ⟨0, by omega, rfl, HOA.out, z4, S⟩
      case round =>
        clear S
        obtain ⟨k, hk, rfl, hob, z5, S⟩ := hrel
        have HOB := Lib.hid hob
        clear hob
        obtain ⟨⟨x0, _⟩, x1, _⟩ := S.two 1
        by_cases hlt : k < t.kids.length
        · have hlti : (k : Int) < (t.kids.length : Int) := by omega
          have HT := Lib.hid (preL_take hlt)
          obtain ⟨b, off, ka, sa, rfl, hpb, c0', c1', ht⟩ := HR.out k hlt
          have c0 := Below.cellOf S.bel c0'
          have c1 := Below.cellOf S.bel c1'
          have HTK := Lib.hid ht
          clear c0' c1' ht
          go_wp2_with fail
          refine (IH.out k hlt p w0 wr B _ u1 _ _ HP.out hB (by have := HBX.out; omega) HTK.out S (fun b' h => ?_) (by
            have h1 := HSZ.out; rw [T.size_eq] at h1
            have h2 := foldT_len (preL (t.kids.take k)) A
            have h3 := sizeL_take hlt
            have h4 := sizeL_take_le t.kids (k + 1)
            have h5 := preL_len (t.kids.take k)
            have h6 := HAL.out
            omega)).mono ?_
          · refine ⟨?_, HO.out b' ?_⟩
            · simp only [Fct.box]
              rcases h with h | h
              · rcases HOB.out b' h with h | h
                · have := (OL.out b' h).2; have := HBX.out; omega
                · omega
              · omega
            · rcases h with h | h
              · rcases HOB.out b' h with h | h
                · exact .inl h
                · right; have := HBX.out; omega
              · right; have := HBX.out; omega
          rintro e w3 ⟨o2, rfl, z6, ho2, S3⟩
          rw [← List.foldl_append, ← HT.out] at S3
          have HO2 := Lib.hid (show ∀ b, o2.ownBlock = some b → (Value.slice oa had.length (had.length + osp)).ownBlock = some b ∨ bx + 1 ≤ b from fun b hb => by
            rcases ho2 b hb with h | h
            · exact HOB.out b h
            · right; omega)
          clear S ho2 x0 x1 c0 c1
          go_wp2_with fail
          go_roundw
          case rel => exact ⟨k + 1, by omega, by go_num, HO2.out, by omega, S3⟩
          case measure => simp [intOf] <;> omega
        · obtain rfl : k = t.kids.length := by omega
          rw [List.take_length, ← HFO.out] at S
          have SE := Lib.hid S.drop2
          clear S
          go_wp2_with fail
          go_ret
          exact ⟨_, rfl, by have := HBX.out; omega, fun b hb => (by rcases HOB.out b hb with h | h; exact .inl h; right; have := HBX.out; omega), SE.out⟩
end Go.Proofs.Ytlhnfdjidjgfgaa
