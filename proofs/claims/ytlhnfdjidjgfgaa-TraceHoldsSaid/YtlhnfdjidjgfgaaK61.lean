/-
  Three rows of facts put together; a row of one fact.
-/
import Derived.Test.YtlhnfdjidjgfgaaProg
import Derived.Test.YtlhnfdjidjgfgaaK3
import Derived.Test.YtlhnfdjidjgfgaaMp
namespace Go.Proofs.Ytlhnfdjidjgfgaa
open Go.RowKit Go.Shelf
set_option linter.unusedVariables false
set_option maxHeartbeats 400000

theorem fact_row5 {w : World} {b : Nat} {L : Fc} {k1 k2 : Option Addr} {s1 s2 : Nat} {q : Nat → Prop} (h : w.heap[b]? = some (.cells #[.bool L.neg, .int .i64 L.l.head, .slice k1 L.l.kids.length (L.l.kids.length + s1), .int .i64 L.r.head, .slice k2 L.r.kids.length (L.r.kids.length + s2)] 62 (0, 0))) (hb : q b)
    (h1 : TreeP q w (.agg #[.int .i64 L.l.head, .slice k1 L.l.kids.length (L.l.kids.length + s1)]) L.l) (h2 : TreeP q w (.agg #[.int .i64 L.r.head, .slice k2 L.r.kids.length (L.r.kids.length + s2)]) L.r) : factE.Row q w (some ⟨b, 0, none⟩) [L] := fun i f hi => by
  match i with
  | 0 =>
    simp at hi; subst hi
    refine ⟨b, 0, [.bool L.neg, .int .i64 L.l.head, .slice k1 L.l.kids.length (L.l.kids.length + s1), .int .i64 L.r.head, .slice k2 L.r.kids.length (L.r.kids.length + s2)], rfl, hb, fun j u hu => ?_, k1, s1, k2, s2, rfl, h1, h2⟩
    simp only [World.cell?, h, Option.isSome_none]
    simpa using hu
  | i + 1 => simp at hi
/-- an own row of facts, read as a row whose blocks are new or the elements' -/
theorem own_rowQ {p : Nat → Prop} {B g n cap s : Nat} {w : World} {xs : List Fc} (h : factE.Own p B w (.slice (some ⟨g, 0, none⟩) n cap) xs) (hs : s ≤ B) :
    factE.Row (fun c => p c ∨ (s ≤ c ∧ c < w.heap.size)) w (some ⟨g, 0, none⟩) xs ∧ n = xs.length ∧ xs.length ≤ cap := by
  obtain ⟨css, hcl, ho, hk⟩ := h
  have h2 : factE.Own (fun c => p c ∨ B ≤ c) B w (.slice (some ⟨g, 0, none⟩) n cap) xs :=
    ⟨css, hcl, ho, fun i cs x h1 h3 => factE.keep (fun b hb _ => ⟨rfl, .inl hb.1, hb.2⟩) (hk i cs x h1 h3)⟩
  obtain ⟨ao, sp, e, hr, _⟩ := h2.row (fun b hb => .inr hb)
  simp only [Value.slice.injEq] at e
  obtain ⟨e1, e2, e3⟩ := e
  rw [← e1] at hr
  exact ⟨hr.mono (fun b h1 h3 => h1.elim .inl (fun h1 => .inr ⟨by omega, h3⟩)), e2, by omega⟩
theorem concat3 (a b : List Fc) (L : Fc) (ga gb bs na nb ca cb bt : Nat) (q : Nat → Prop) (w : World) (hna : na = a.length) (hnb : nb = b.length)
    (hbt : w.heap[bt]? = some (.cells #[.slice (some ⟨ga, 0, none⟩) na ca, .slice (some ⟨gb, 0, none⟩) nb cb, .slice (some ⟨bs, 0, none⟩) 1 1] 39 (0, 0)))
    (ha : factE.Row q w (some ⟨ga, 0, none⟩) a) (hb : factE.Row q w (some ⟨gb, 0, none⟩) b) (hL : factE.Row q w (some ⟨bs, 0, none⟩) [L]) (hq : ∀ c, q c → c < w.heap.size) (hla : a.length ≤ 100) (hlb : b.length ≤ 100) :
    Calls Try.prog 141 #[.slice (some ⟨bt, 0, none⟩) 3 3] w fun e w' => ∃ g cap, e = .returned (.slice (some ⟨g, 0, none⟩) (a ++ b ++ [L]).length cap) ∧ factE.Own q w.heap.size w' (.slice (some ⟨g, 0, none⟩) (a ++ b ++ [L]).length cap) (a ++ b ++ [L]) ∧ Below w.heap.size w w' := by
  subst hna hnb
  have hfl : flatP (fun k => if k = 0 then a else if k = 1 then b else [L]) 3 = a ++ b ++ [L] := by simp [flatP]
  have h := concat141 3 (fun k => if k = 0 then a else if k = 1 then b else [L]) (fun k => if k = 0 then ⟨ga, 0, none⟩ else if k = 1 then ⟨gb, 0, none⟩ else ⟨bs, 0, none⟩) (fun k => if k = 0 then ca else if k = 1 then cb else 1) bt 0 3 q w
    (fun k hk => by
      match k, hk with
      | 0, _ => simp [World.cell?, hbt]
      | 1, _ => simp [World.cell?, hbt]
      | 2, _ => simp [World.cell?, hbt]) (fun k hk => by
      match k, hk with
      | 0, _ => exact ha
      | 1, _ => exact hb
      | 2, _ => exact hL) hq (by omega) (by rw [hfl]; simp; omega) (by rw [hfl]; simp; omega)
  rw [hfl] at h
  exact h
end Go.Proofs.Ytlhnfdjidjgfgaa
