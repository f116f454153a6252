/-
  Walk: tree.Get, and where the tree that it finds lies.
  Three rows of facts put together; a row of one fact.
-/
import Derived.Test.YtlhnfdjidjgfgaaProg
import Derived.Test.YtlhnfdjidjgfgaaT25
import Derived.Test.YtlhnfdjidjgfgaaK3
import Derived.Test.YtlhnfdjidjgfgaaMp
namespace Go.Proofs.Ytlhnfdjidjgfgaa
open Go.RowKit Go.Shelf
set_option linter.unusedVariables false
set_option maxHeartbeats 400000

def GetPostP (p : Nat → Prop) (r : T × Int) (w : World) (e : Ending) (w' : World) : Prop := ∃ u, e = .returned (.tuple #[u, .int .i64 r.2]) ∧ TreeP p w' u r.1 ∧ Below w.heap.size w w'
theorem TreeP.rowP {p : Nat → Prop} {w : World} {h0 : Int} {ao : Option Addr} {n c : Nat} {x : T} (h : TreeP p w (.agg #[.int .i64 h0, .slice ao n c]) x) : RowP p w ao x.kids ∧ x.kids.length ≤ maxLen := by
  obtain ⟨ao', sp', e, h1, h2⟩ := h.open
  simp at e
  rw [e.2.1]; exact ⟨h1, h2⟩
set_option maxRecDepth 100000 in
set_option maxHeartbeats 4000000 in
theorem getP49 (t : T) (p : Nat → Prop) (place : List Int) (v : Value) (po : Option Addr) (pc : Nat) (w : World) (ht : TreeP p w v t) (hp : CellsAt w po place.length (fun j => .int .i64 (gI place j))) (hpl : place.length ≤ 9223372036854775807) :
    Calls Try.prog 140 #[v, .slice po place.length pc] w (GetPostP p (t.get place 0) w) := by
  obtain ⟨k, sp, rfl⟩ := ht.at.form
  have HT := Lib.hid ht; have HP := Lib.hid hp; clear ht hp
  have hX := heap_alloc_old (o' := .cells #[.int .i64 0, .slice none 0 0] 38) (heap_ofAlloc w (.cells #[.int .i64 t.head, .slice k t.kids.length (t.kids.length + sp)] 38))
  have hA := heap_ofAlloc (w.alloc (.cells #[.int .i64 t.head, .slice k t.kids.length (t.kids.length + sp)] 38)) (.cells #[.int .i64 0, .slice none 0 0] 38)
  rw [World.size_alloc] at hA
  have hb0 := below_two w (.cells #[.int .i64 t.head, .slice k t.kids.length (t.kids.length + sp)] 38) (.cells #[.int .i64 0, .slice none 0 0] 38)
  go_enter Try.func140, Try.ntmps140
  go_wp2_with fail
  generalize (w.alloc (.cells #[.int .i64 t.head, .slice k t.kids.length (t.kids.length + sp)] 38)).alloc (.cells #[.int .i64 0, .slice none 0 0] 38) = w0 at hX hA hb0 ⊢
  obtain ⟨bx, hbx⟩ : ∃ b, b = w.heap.size := ⟨_, rfl⟩
  obtain ⟨br, hbr⟩ : ∃ b, b = w.heap.size + 1 := ⟨_, rfl⟩
  rw [← hbr] at hA ⊢
  rw [← hbx] at hX ⊢
  have g1 : w.heap.size ≤ bx := by omega
  have g2 : w.heap.size ≤ br := by omega
  have g3 : bx ≠ br := by omega
  clear hbx hbr
  go_loopw [6, 7, 10] (fun _ _ i wr => ∃ (q : Nat) (x : T) (xo : Option Addr) (xsp : Nat), q ≤ place.length ∧ i = .int .i64 q ∧ x.get (place.drop q) q = t.get place 0 ∧
    wr.heap[bx]? = some (.cells #[.int .i64 x.head, .slice xo x.kids.length (x.kids.length + xsp)] 38 (0, 0)) ∧ TreeP p w (.agg #[.int .i64 x.head, .slice xo x.kids.length (x.kids.length + xsp)]) x ∧
    wr.heap[br]? = some (.cells #[.int .i64 0, .slice none 0 0] 38 (0, 0)) ∧ Below w.heap.size w wr) (fun _ _ i _ => place.length - (intOf i).toNat)
  case atStart => exact ⟨0, t, k, sp, by omega, rfl, by simp, hX, HT.out, hA, hb0⟩
  case round =>
    obtain ⟨q, x, xo, xsp, hq, rfl, hg, hbx, htx, hbr, hb⟩ := hrel
    have HG := Lib.hid hg; have HTX := Lib.hid htx
    obtain ⟨hrow, hxm⟩ := htx.rowP
    have HROW := Lib.hid hrow
    have hxm : x.kids.length ≤ 9223372036854775807 := hxm
    have HBX := Lib.hid hbx; have HBR := Lib.hid hbr
    obtain ⟨⟨x0, x1⟩, x2, x3⟩ := box2 hbx
    obtain ⟨⟨y0, y1⟩, y2, y3⟩ := box2 hbr
    clear hg htx hrow hbx hbr
    by_cases hlt : q < place.length
    · obtain ⟨pb, poff, rfl, c0⟩ := HP.out.get hlt
      have d0 := Below.cellOf hb c0
      have HD := Lib.hid (show x.get (place.drop q) q = if gI place q < 1 ∨ (x.kids.length : Int) < gI place q then (zeroT, (q : Int)) else (gK x.kids (gI place q - 1).toNat).get (place.drop (q + 1)) (q + 1) by rw [drop_gI hlt, T.get])
      clear c0
      generalize gI place q = z at d0 HD ⊢
      by_cases h1 : z < 1
      · have HR := Lib.hid (show t.get place 0 = (zeroT, (q : Int)) by rw [← HG.out, HD.out, if_pos (.inl h1)])
        go_wp2_with fail
        refine bodyPost_ret (v := .tuple #[.agg #[.int .i64 0, .slice none 0 0], .int .i64 q]) ?_ rfl ?_
        · obtain ⟨⟨z0, _⟩, z1, _⟩ := box2 (box2_set HBR.out (.int .i64 0) (.slice none 0 0))
          simp [results, Try.results140, go_sem, z0, z1]
        · exact ⟨_, by rw [HR.out], by rw [HR.out]; exact TreeP.leaf p _ 0, (hb.setCell (p := ⟨br, 0, none⟩) g2 _).setCell (p := ⟨br, 1, none⟩) g2 _⟩
      · by_cases h2 : (x.kids.length : Int) < z
        · have HR := Lib.hid (show t.get place 0 = (zeroT, (q : Int)) by rw [← HG.out, HD.out, if_pos (.inr h2)])
          go_wp2_with fail
          refine bodyPost_ret (v := .tuple #[.agg #[.int .i64 0, .slice none 0 0], .int .i64 q]) ?_ rfl ?_
          · obtain ⟨⟨z0, _⟩, z1, _⟩ := box2 (box2_set HBR.out (.int .i64 0) (.slice none 0 0))
            simp [results, Try.results140, go_sem, z0, z1]
          · exact ⟨_, by rw [HR.out], by rw [HR.out]; exact TreeP.leaf p _ 0, (hb.setCell (p := ⟨br, 0, none⟩) g2 _).setCell (p := ⟨br, 1, none⟩) g2 _⟩
        · obtain ⟨j, rfl⟩ : ∃ j : Nat, z = (j : Int) + 1 := ⟨(z - 1).toNat, by omega⟩
          have hjl : j < x.kids.length := by omega
          obtain ⟨b, off, ko, ksp, rfl, _, c1, c2, c3⟩ := HROW.out j hjl
          have HC3 := Lib.hid c3
          have d1 := Below.cellOf hb c1; have d2 := Below.cellOf hb c2
          have HN := Lib.hid (show (gK x.kids j).get (place.drop (q + 1)) ((q + 1 : Nat) : Int) = t.get place 0 by
            have h := HG.out
            rw [HD.out, if_neg (by omega)] at h
            have e : ((j : Int) + 1 - 1).toNat = j := by omega
            rw [e] at h; simpa using h)
          have hsub : (j : Int) + 1 - 1 = (j : Int) := by omega
          clear c1 c2 c3
          go_wp2_with fail
          go_roundw
          case rel => exact ⟨q + 1, gK x.kids j, ko, ksp, by omega, by go_num, HN.out, box2_set HBX.out _ _, HC3.out, heap_set_other (heap_set_other HBR.out (by simp; omega)) (by simp; omega), (hb.setCell (p := ⟨bx, 0, none⟩) g1 _).setCell (p := ⟨bx, 1, none⟩) g1 _⟩
          case measure => simp [intOf] <;> omega
    · obtain rfl : q = place.length := by omega
      have HR := Lib.hid (show t.get place 0 = (x, -1) by rw [← HG.out, List.drop_length, T.get])
      go_wp2_with fail
      have hbf := (hb.setCell (p := ⟨br, 0, none⟩) g2 (.int .i64 x.head)).setCell (p := ⟨br, 1, none⟩) g2 (.slice xo x.kids.length (x.kids.length + xsp))
      refine bodyPost_ret (v := .tuple #[.agg #[.int .i64 x.head, .slice xo x.kids.length (x.kids.length + xsp)], .int .i64 (-1)]) ?_ rfl ?_
      · obtain ⟨⟨z0, _⟩, z1, _⟩ := box2 (box2_set HBR.out (.int .i64 x.head) (.slice xo x.kids.length (x.kids.length + xsp)))
        simp [results, Try.results140, go_sem, z0, z1]
      · exact ⟨_, by rw [HR.out], by rw [HR.out]; exact HTX.out.kept hbf, hbf⟩
end Go.Proofs.Ytlhnfdjidjgfgaa
namespace Go.Proofs.Ytlhnfdjidjgfgaa
open Go.RowKit Go.Shelf
set_option linter.unusedVariables false
set_option maxHeartbeats 400000

theorem fact_row5 {w : World} {b : Nat} {L : Fc} {k1 k2 : Option Addr} {s1 s2 : Nat} {q : Nat → Prop} (h : w.heap[b]? = some (.cells #[.bool L.neg, .int .i64 L.l.head, .slice k1 L.l.kids.length (L.l.kids.length + s1), .int .i64 L.r.head, .slice k2 L.r.kids.length (L.r.kids.length + s2)] 62 (0, 0))) (hb : q b)
    (h1 : TreeP q w (.agg #[.int .i64 L.l.head, .slice k1 L.l.kids.length (L.l.kids.length + s1)]) L.l) (h2 : TreeP q w (.agg #[.int .i64 L.r.head, .slice k2 L.r.kids.length (L.r.kids.length + s2)]) L.r) : factE.Row q w (some ⟨b, 0, none⟩) [L] := fun i f hi => by
  match i with
  | 0 =>
    simp at hi; subst hi
    refine ⟨b, 0, [.bool L.neg, .int .i64 L.l.head, .slice k1 L.l.kids.length (L.l.kids.length + s1), .int .i64 L.r.head, .slice k2 L.r.kids.length (L.r.kids.length + s2)], rfl, hb, fun j u hu => ?_, k1, s1, k2, s2, rfl, h1, h2⟩
    simp only [World.cell?, h, Option.isSome_none]
    simpa using hu
  | i + 1 => simp at hi
/-- an own row of facts, read as a row whose blocks are new or the elements' -/
theorem own_rowQ {p : Nat → Prop} {B g n cap s : Nat} {w : World} {xs : List Fc} (h : factE.Own p B w (.slice (some ⟨g, 0, none⟩) n cap) xs) (hs : s ≤ B) :
    factE.Row (fun c => p c ∨ (s ≤ c ∧ c < w.heap.size)) w (some ⟨g, 0, none⟩) xs ∧ n = xs.length ∧ xs.length ≤ cap := by
  obtain ⟨css, hcl, ho, hk⟩ := h
  have h2 : factE.Own (fun c => p c ∨ B ≤ c) B w (.slice (some ⟨g, 0, none⟩) n cap) xs :=
    ⟨css, hcl, ho, fun i cs x h1 h3 => factE.keep (fun b hb _ => ⟨rfl, .inl hb.1, hb.2⟩) (hk i cs x h1 h3)⟩
  obtain ⟨ao, sp, e, hr, _⟩ := h2.row (fun b hb => .inr hb)
  simp only [Value.slice.injEq] at e
  obtain ⟨e1, e2, e3⟩ := e
  rw [← e1] at hr
  exact ⟨hr.mono (fun b h1 h3 => h1.elim .inl (fun h1 => .inr ⟨by omega, h3⟩)), e2, by omega⟩
theorem concat3 (a b : List Fc) (L : Fc) (ga gb bs na nb ca cb bt : Nat) (q : Nat → Prop) (w : World) (hna : na = a.length) (hnb : nb = b.length)
    (hbt : w.heap[bt]? = some (.cells #[.slice (some ⟨ga, 0, none⟩) na ca, .slice (some ⟨gb, 0, none⟩) nb cb, .slice (some ⟨bs, 0, none⟩) 1 1] 39 (0, 0)))
    (ha : factE.Row q w (some ⟨ga, 0, none⟩) a) (hb : factE.Row q w (some ⟨gb, 0, none⟩) b) (hL : factE.Row q w (some ⟨bs, 0, none⟩) [L]) (hq : ∀ c, q c → c < w.heap.size) (hla : a.length ≤ 100) (hlb : b.length ≤ 100) :
    Calls Try.prog 141 #[.slice (some ⟨bt, 0, none⟩) 3 3] w fun e w' => ∃ g cap, e = .returned (.slice (some ⟨g, 0, none⟩) (a ++ b ++ [L]).length cap) ∧ factE.Own q w.heap.size w' (.slice (some ⟨g, 0, none⟩) (a ++ b ++ [L]).length cap) (a ++ b ++ [L]) ∧ Below w.heap.size w w' := by
  subst hna hnb
  have hfl : flatP (fun k => if k = 0 then a else if k = 1 then b else [L]) 3 = a ++ b ++ [L] := by simp [flatP]
  have h := concat141 3 (fun k => if k = 0 then a else if k = 1 then b else [L]) (fun k => if k = 0 then ⟨ga, 0, none⟩ else if k = 1 then ⟨gb, 0, none⟩ else ⟨bs, 0, none⟩) (fun k => if k = 0 then ca else if k = 1 then cb else 1) bt 0 3 q w
    (fun k hk => by
      match k, hk with
      | 0, _ => simp [World.cell?, hbt]
      | 1, _ => simp [World.cell?, hbt]
      | 2, _ => simp [World.cell?, hbt]) (fun k hk => by
      match k, hk with
      | 0, _ => exact ha
      | 1, _ => exact hb
      | 2, _ => exact hL) hq (by omega) (by rw [hfl]; simp; omega) (by rw [hfl]; simp; omega)
  rw [hfl] at h
  exact h
end Go.Proofs.Ytlhnfdjidjgfgaa
