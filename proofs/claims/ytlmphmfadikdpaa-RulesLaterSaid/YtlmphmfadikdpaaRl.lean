/- Rules in memory. -/
import Derived.Test.YtlmphmfadikdpaaRules3
set_option linter.unusedVariables false
namespace Gno
structure Rl where
  fy : Int
  ty : Int
  mo : Int
  k : Int
  wk : Int
  d : Int
  a : Int
  sv : Int
  le : ByteArray
end Gno
namespace Go.Proofs.Ytlmphmfadikdpaa
open Go.RowKit Gno

/-- the nine cells of a rule lie in block b from o on. -/
def RuleAt (w : World) (b o : Nat) (r : Rl) : Prop :=
  w.cell? ⟨b, o, none⟩ = some (.int .i64 r.fy) ∧ w.cell? ⟨b, o + 1, none⟩ = some (.int .i64 r.ty) ∧ w.cell? ⟨b, o + 2, none⟩ = some (.int .i64 r.mo) ∧
  w.cell? ⟨b, o + 3, none⟩ = some (.int .i64 r.k) ∧ w.cell? ⟨b, o + 4, none⟩ = some (.int .i64 r.wk) ∧ w.cell? ⟨b, o + 5, none⟩ = some (.int .i64 r.d) ∧
  w.cell? ⟨b, o + 6, none⟩ = some (.int .i64 r.a) ∧ w.cell? ⟨b, o + 7, none⟩ = some (.int .i64 r.sv) ∧ w.cell? ⟨b, o + 8, none⟩ = some (.string r.le)
theorem RuleAt.below {B : Nat} {w w' : World} {b o : Nat} {r : Rl} (h : RuleAt w b o r) (hb : Below B w w') (hB : b < B) : RuleAt w' b o r := by
  obtain ⟨h0, h1, h2, h3, h4, h5, h6, h7, h8⟩ := h
  exact ⟨(hb.cell hB).trans h0, (hb.cell hB).trans h1, (hb.cell hB).trans h2, (hb.cell hB).trans h3, (hb.cell hB).trans h4, (hb.cell hB).trans h5, (hb.cell hB).trans h6, (hb.cell hB).trans h7, (hb.cell hB).trans h8⟩
/-- a slice value of address A and length n reads as the rules rs, all below block B. -/
def RulesAt (w : World) (B : Nat) (A : Option Addr) (n : Nat) (rs : List Rl) : Prop :=
  rs.length = n ∧ n ≤ maxLen ∧ (0 < n → ∃ b o, A = some ⟨b, o, none⟩ ∧ b < B ∧ ∀ i r, rs[i]? = some r → RuleAt w b (o + i * 9) r ∧ r.le.size ≤ maxLen)
theorem RulesAt.below {B B' : Nat} {w w' : World} {A : Option Addr} {n : Nat} {rs : List Rl} (h : RulesAt w B A n rs) (hb : Below B' w w') (hB : B ≤ B') : RulesAt w' B A n rs :=
  ⟨h.1, h.2.1, fun hn => by
    obtain ⟨b, o, e, hbB, hc⟩ := h.2.2 hn
    exact ⟨b, o, e, hbB, fun i r hi => ⟨(hc i r hi).1.below hb (by omega), (hc i r hi).2⟩⟩⟩
theorem RulesAt.more {B B' : Nat} {w : World} {A : Option Addr} {n : Nat} {rs : List Rl} (h : RulesAt w B A n rs) (hB : B ≤ B') : RulesAt w B' A n rs :=
  ⟨h.1, h.2.1, fun hn => by
    obtain ⟨b, o, e, hbB, hc⟩ := h.2.2 hn
    exact ⟨b, o, e, by omega, hc⟩⟩
end Go.Proofs.Ytlmphmfadikdpaa
