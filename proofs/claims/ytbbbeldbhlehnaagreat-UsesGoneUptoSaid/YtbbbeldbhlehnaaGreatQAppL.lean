/- At a step of a region that draws its order: a slice that came in, or one element, appended to an own one. -/
import Derived.Deep.AppendLies
import Derived.Test.YtbbbeldbhlehnaaGreatMUsesTellsRow0
import Derived.Test.YtbbbeldbhlehnaaGreatMUsesTellsRow1
import Derived.Test.YtbbbeldbhlehnaaGreatMUsesTellsRow2
import Derived.Test.YtbbbeldbhlehnaaGreatMUsesTellsRow3
import Derived.Test.YtbbbeldbhlehnaaGreatMUsesTellsRow4
import Derived.Test.YtbbbeldbhlehnaaGreatMUsesTellsRow5
import Derived.Test.YtbbbeldbhlehnaaGreatMUsesTellsRow6
import Derived.Test.YtbbbeldbhlehnaaGreatMUsesTellsRow7
import Derived.Test.YtbbbeldbhlehnaaGreatMUsesTellsRow8
import Derived.Test.YtbbbeldbhlehnaaGreatMUsesTellsRow9
import Derived.Test.YtbbbeldbhlehnaaGreatMUsesTellsRow10
import Derived.Test.YtbbbeldbhlehnaaGreatMUsesTellsRow11
import Derived.Test.YtbbbeldbhlehnaaGreatMUsesTellsRow12
import Derived.Test.YtbbbeldbhlehnaaGreatMUsesTellsRow13
import Derived.Test.YtbbbeldbhlehnaaGreatMUsesTellsRow14
import Derived.Test.YtbbbeldbhlehnaaGreatMUsesTellsRow15
import Derived.Test.YtbbbeldbhlehnaaGreatMUsesTellsRow16
import Derived.Test.YtbbbeldbhlehnaaGreatMUsesTellsRow17
import Derived.Test.YtbbbeldbhlehnaaGreatMUsesTellsRow18
import Derived.Test.YtbbbeldbhlehnaaGreatMUsesTellsRow19
import Derived.Test.YtbbbeldbhlehnaaGreatMUsesTellsRow20
import Derived.Test.YtbbbeldbhlehnaaGreatMUsesTellsRow21
import Derived.Test.YtbbbeldbhlehnaaGreatMUsesTellsRow22
import Derived.Test.YtbbbeldbhlehnaaGreatMUsesTellsRow23
import Derived.Test.YtbbbeldbhlehnaaGreatMUsesTellsRow24
import Derived.Test.YtbbbeldbhlehnaaGreatMUsesTellsRow25
import Derived.Test.YtbbbeldbhlehnaaGreatMUsesTellsRow26
import Derived.Test.YtbbbeldbhlehnaaGreatMUsesTellsRow27
import Derived.Test.YtbbbeldbhlehnaaGreatMUsesTellsRow28
import Derived.Test.YtbbbeldbhlehnaaGreatMUsesTellsRow29
import Derived.Test.YtbbbeldbhlehnaaGreatMUsesTellsRow30
import Derived.Test.YtbbbeldbhlehnaaGreatMUsesTellsRow31
import Derived.Test.YtbbbeldbhlehnaaGreatMUsesTellsRow32
import Derived.Test.YtbbbeldbhlehnaaGreatMUsesTellsRow33
import Derived.Test.YtbbbeldbhlehnaaGreatMUsesTellsRow34
import Derived.Test.YtbbbeldbhlehnaaGreatMUsesTellsRow35
import Derived.Test.YtbbbeldbhlehnaaGreatMUsesTellsRow36
import Derived.Test.YtbbbeldbhlehnaaGreatMUsesTellsRow37
import Derived.Test.YtbbbeldbhlehnaaGreatMUsesTellsRow38
import Derived.Test.YtbbbeldbhlehnaaGreatMUsesTellsRow39
set_option linter.unusedSimpArgs false
set_option linter.unusedVariables false
set_option linter.unusedVariables false
set_option linter.unusedSimpArgs false
namespace Go.Proofs.YtbbbeldbhlehnaaGreat
open Go.RowKit Gno
section
variable {P : Program}
theorem wp_app (w : World) {o : Oper} {a : Act} {K : Act → World → Prop} {Q : Exit → Act → World → Prop} (s x : Operand) (t : TypeId)
    (ho : o.op = .call { callee := .builtin .append, args := #[s, x], argTypes := #[t, t] })
    (base : Nat) (e : TypeId) (z : Value) (size bytes : Nat) (ht : P.underlying t = some (.slice e)) (hinf : (P.info? e).map (fun i => (i.zero, i.size, i.bytes)) = some (some z, size, bytes))
    (hzs : z.cells.size = size) (hsz : 0 < size)
    (v : Value) (n : Nat) (xs : List Value) (hs : a.eval s = v) (hown : w.ownsRow base e size v n xs)
    (A : Option Addr) (m c : Nat) (news : List Value) (hx : a.eval x = .slice A m c) (hA : A = none → m = 0 ∧ c = 0) (hl : news.length = m * size) (hnews : ∀ ad, A = some ad → ∀ j u, news[j]? = some u → w.cell? (ad.add j) = some u) (h1 : ∀ u ∈ news, u.oneCell' = true)
    (h63 : n + m ≤ maxLen) (hbytes : (n + m) * bytes ≤ 140737488355328) (hbase : base ≤ w.heap.size)
    (h : ∀ v' w', w'.ownsRow base e size v' (n + m) (xs ++ news) → w.grownBy w' v.ownBlock → NearOr w v v' → K (a.put o.dst v') w') :
    Oper.wp P o a w K Q := by
  obtain ⟨i, hi, hz, hsize, hby⟩ := info_parts hinf
  cases A with
  | none =>
    obtain ⟨rfl, rfl⟩ := hA rfl
    have hn : news = [] := List.eq_nil_of_length_eq_zero (by simpa using hl)
    subst hn
    have hrun := run_append_owned_none (P := P) (w := w) base t o.type e i size ht hi v n xs hown
    unfold Oper.wp
    simp [execOp, ho, resolve, invoke, builtin, hs, hx, hrun, Result.andThen]
    exact h v w (by simpa using hown) (World.grownBy.refl w _) (.inl rfl)
  | some ad =>
    obtain ⟨v', w', hr, h2, h3, h4⟩ := run_append_at (P := P) w base t o.type e i z size bytes ht hi hz hsize hby hzs hsz v n xs hown ad m c news hl (hnews ad rfl) h1 h63 hbytes hbase
    unfold Oper.wp execOp
    simp only [ho, resolve, invoke, builtin, Sem.run_bind, Sem.run_pure, Result.andThen_ok, List.map_toArray, List.map_cons, List.map_nil, hs, hx, hr]
    exact h v' w' h2 h3 h4
end
theorem infoLink : (Tryz.prog.info? 68).map (fun i => (i.zero, i.size, i.bytes)) = some (some (.agg #[.string ⟨#[]⟩, .string ⟨#[]⟩]), 2, 32) := by kernel_rfl
/-- links as cells. -/
def lkCells (l : Lk) : List Value := [.string l.name, .string l.to]
def lks (l : List Lk) : List Value := l.flatMap lkCells
theorem lks_len (l : List Lk) : (lks l).length = l.length * 2 := by
  induction l with
  | nil => rfl
  | cons a t ih => simp only [lks, List.flatMap_cons, List.length_append, List.length_cons] at *; rw [ih]; simp [lkCells]; omega
theorem lks_get : ∀ (l : List Lk) (i : Nat) (x : Lk), l[i]? = some x → (lks l)[i * 2]? = some (.string x.name) ∧ (lks l)[i * 2 + 1]? = some (.string x.to)
  | a :: t, 0, x, h => by
    obtain rfl : a = x := by simpa using h
    exact ⟨rfl, rfl⟩
  | a :: t, i + 1, x, h => by
    have ih := lks_get t i x (by simpa using h)
    have e : lks (a :: t) = .string a.name :: .string a.to :: lks t := rfl
    rw [e, show (i + 1) * 2 = i * 2 + 1 + 1 by omega, List.getElem?_cons_succ, List.getElem?_cons_succ, List.getElem?_cons_succ, List.getElem?_cons_succ]
    exact ih
theorem lks_of : ∀ (l : List Lk) (j : Nat) (u : Value), (lks l)[j]? = some u → ∃ i x, l[i]? = some x ∧ ((j = i * 2 ∧ u = .string x.name) ∨ (j = i * 2 + 1 ∧ u = .string x.to))
  | [], j, u, h => by simp [lks] at h
  | a :: t, j, u, h => by
    have e : lks (a :: t) = .string a.name :: .string a.to :: lks t := rfl
    rw [e] at h
    match j, h with
    | 0, h => exact ⟨0, a, rfl, .inl ⟨rfl, by simpa using h.symm⟩⟩
    | 1, h => exact ⟨0, a, rfl, .inr ⟨rfl, by simpa using h.symm⟩⟩
    | j + 2, h =>
      obtain ⟨i, x, hx, hc⟩ := lks_of t j u (by simpa using h)
      refine ⟨i + 1, x, by simpa using hx, ?_⟩
      rcases hc with ⟨rfl, hu⟩ | ⟨rfl, hu⟩
      · exact .inl ⟨by omega, hu⟩
      · exact .inr ⟨by omega, hu⟩
theorem lks_one {l : List Lk} : ∀ u ∈ lks l, u.oneCell' = true := by
  intro u hu
  obtain ⟨j, hj⟩ := List.getElem?_of_mem hu
  obtain ⟨i, x, _, ⟨_, rfl⟩ | ⟨_, rfl⟩⟩ := lks_of l j u hj <;> rfl
theorem lks_cells {w : World} {B : Nat} {A : Option Addr} {n : Nat} {l : List Lk} (h : LinksAt w B A n l) {ad : Addr} (hA : A = some ad) : ∀ j u, (lks l)[j]? = some u → w.cell? (ad.add j) = some u := by
  intro j u hj
  obtain ⟨i, x, hx, hc⟩ := lks_of l j u hj
  have hi := (List.getElem?_eq_some_iff.1 hx).1
  obtain ⟨b, o, hA2, _, hcell⟩ := h.2.2 (by have := h.1; omega)
  rw [hA] at hA2
  obtain rfl : ad = ⟨b, o, none⟩ := by injection hA2
  have hadd : ∀ j, (⟨b, o, none⟩ : Addr).add j = ⟨b, o + j, none⟩ := fun j => by unfold Addr.add; split <;> simp_all
  rw [hadd]
  have := (hcell i x hx).1
  rcases hc with ⟨rfl, rfl⟩ | ⟨rfl, rfl⟩
  · exact this.1
  · rw [← Nat.add_assoc]; exact this.2
/-- an own row of links is a slice of links. -/
theorem links_own {w : World} {B : Nat} {g cap n : Nat} {l : List Lk} (h : w.ownsRow B 68 2 (.slice (some ⟨g, 0, none⟩) n cap) n (lks l)) (hn : n ≤ maxLen) (hs : ∀ x ∈ l, x.name.size ≤ maxLen ∧ x.to.size ≤ maxLen) :
    LinksAt w w.heap.size (some ⟨g, 0, none⟩) n l := by
  have hl : l.length = n := by have := h.1; rw [lks_len] at this; omega
  refine ⟨hl, hn, fun h0 => ⟨g, 0, rfl, (h.lt g rfl).2, fun i x hx => ?_⟩⟩
  have hg := lks_get l i x hx
  have hadd : ∀ j, (⟨g, 0, none⟩ : Addr).add j = ⟨g, 0 + j, none⟩ := fun j => by unfold Addr.add; split <;> simp_all
  have c0 := h.cells (g := g) rfl _ _ hg.1
  have c1 := h.cells (g := g) rfl _ _ hg.2
  rw [hadd] at c0 c1
  exact ⟨⟨c0, by rw [Nat.add_assoc]; exact c1⟩, hs x (List.mem_of_getElem? hx)⟩
end Go.Proofs.YtbbbeldbhlehnaaGreat
