/- Parts of a proof, laid together. -/
import Derived.Deep.Slices
import Derived.Test.YthhjgndaiimgjaaGreatDoorMUSrcB1
import Derived.Test.YthhjgndaiimgjaaGreatDoorMUSrcB4
import Derived.Test.YthhjgndaiimgjaaGreatDoorMUSrcB6
set_option linter.unusedSimpArgs false
set_option linter.unusedVariables false
/-! Arguments of type Rule and []Rule, opened. -/
section
set_option linter.unusedVariables false
set_option linter.unusedSimpArgs false
set_option maxRecDepth 100000
namespace Go.Proofs.YthhjgndaiimgjaaGreatDoor
open Go.ChangeShapes Go.WideShapes Go.ChangeAt Go.RowKit Gno

theorem cellsInt : Tryz.prog.cellsOf 3 = 1 := by kernel_rfl
theorem cellsString : Tryz.prog.cellsOf 9 = 1 := by kernel_rfl
theorem cellsOn' : Tryz.prog.cellsOf 51 = 3 := by kernel_rfl
theorem cellsRule : Tryz.prog.cellsOf 53 = 9 := by kernel_rfl
theorem list9 {α : Type} {l : List α} (h : l.length = 9) : ∃ a b c d e f g i j, l = [a, b, c, d, e, f, g, i, j] := by
  match l, h with
  | [a, b, c, d, e, f, g, i, j], _ => exact ⟨a, b, c, d, e, f, g, i, j, rfl⟩
def _root_.Gno.Rl.cells (r : Rl) : List Value := [.int .i64 r.fy, .int .i64 r.ty, .int .i64 r.mo, .int .i64 r.k, .int .i64 r.wk, .int .i64 r.d, .int .i64 r.a, .int .i64 r.sv, .string r.le]

section
variable {H : Type} {enc : TypeId × Value → H} {w : World} {base : Nat} {spare : Nat → Bool} {held : Bool}
theorem trod_On {fuel : Nat} {c0 c1 c2 : Value} {x : DataW H × List MemPlace} (h : DataW.trod enc Tryz.prog w base spare held fuel 51 [c0, c1, c2] = some x) :
    ∃ k wk d : Int, c0 = .int .i64 k ∧ c1 = .int .i64 wk ∧ c2 = .int .i64 d := by
  obtain ⟨xs, n, _, _, _, hlen, hf⟩ := DataW.trod_struct Tryz.underlying51 h
  have h0 := hf 0 _ rfl
  have h1 := hf 1 _ rfl
  have h2 := hf 2 _ rfl
  simp [cellsInt] at h0 h1 h2
  rw [List.getElem?_eq_getElem (by simp at hlen; omega)] at h0 h1 h2
  obtain ⟨k, e0, _⟩ := DataW.trod_int Tryz.underlying3 h0
  obtain ⟨wk, e1, _⟩ := DataW.trod_int Tryz.underlying3 h1
  obtain ⟨d, e2, _⟩ := DataW.trod_int Tryz.underlying3 h2
  simp at e0 e1 e2
  exact ⟨k, wk, d, e0, e1, e2⟩
theorem trod_Rule {fuel : Nat} {cs : List Value} {x : DataW H × List MemPlace} (h : DataW.trod enc Tryz.prog w base spare held fuel 53 cs = some x) :
    ∃ r : Rl, cs = r.cells ∧ r.le.size ≤ maxLen := by
  obtain ⟨xs, n, _, _, hl, hlen, hf⟩ := DataW.trod_struct Tryz.underlying53 h
  obtain ⟨c0, c1, c2, c3, c4, c5, c6, c7, c8, rfl⟩ := list9 (hl.trans cellsRule)
  have h0 := hf 0 _ rfl
  have h1 := hf 1 _ rfl
  have h2 := hf 2 _ rfl
  have h3 := hf 3 _ rfl
  have h4 := hf 4 _ rfl
  have h5 := hf 5 _ rfl
  have h6 := hf 6 _ rfl
  simp [cellsInt, cellsString, cellsOn'] at h0 h1 h2 h3 h4 h5 h6
  rw [List.getElem?_eq_getElem (by simp at hlen; omega)] at h0 h1 h2 h3 h4 h5 h6
  obtain ⟨fy, e0, _⟩ := DataW.trod_int Tryz.underlying3 h0
  obtain ⟨ty, e1, _⟩ := DataW.trod_int Tryz.underlying3 h1
  obtain ⟨mo, e2, _⟩ := DataW.trod_int Tryz.underlying3 h2
  obtain ⟨k, wk, d, e3, e4, e5⟩ := trod_On h3
  obtain ⟨a, e6, _⟩ := DataW.trod_int Tryz.underlying3 h4
  obtain ⟨sv, e7, _⟩ := DataW.trod_int Tryz.underlying3 h5
  obtain ⟨le, e8, _, hs⟩ := DataW.trod_string Tryz.underlying9 h6
  simp at e0 e1 e2 e6 e7 e8
  exact ⟨⟨fy, ty, mo, k, wk, d, a, sv, le⟩, by rw [e0, e1, e2, e3, e4, e5, e6, e7, e8]; rfl, hs⟩
end
end Go.Proofs.YthhjgndaiimgjaaGreatDoor
end
/-! Data in memory. -/
section
set_option linter.unusedVariables false
set_option linter.unusedSimpArgs false
namespace Gno
open Go Go.RowKit Go.Proofs.YthhjgndaiimgjaaGreatDoor
def fmtMax : Nat := 4294967280
def Er.val (x : Er) : Value := .agg #[.int .i64 x.std, .int .i64 x.set, .int .i64 x.save, .string x.fmt, .int .i64 x.til]
def Dt.val (d : Dt) : Value := .agg #[.slice d.sA d.sn d.sc, .slice d.zA d.zn d.zc, .slice d.lA d.ln d.lc]
def ErAt (w : World) (b o : Nat) (x : Er) : Prop :=
  w.cell? ⟨b, o, none⟩ = some (.int .i64 x.std) ∧ w.cell? ⟨b, o + 1, none⟩ = some (.int .i64 x.set) ∧ w.cell? ⟨b, o + 2, none⟩ = some (.int .i64 x.save) ∧
  w.cell? ⟨b, o + 3, none⟩ = some (.string x.fmt) ∧ w.cell? ⟨b, o + 4, none⟩ = some (.int .i64 x.til)
def ErasAt : World → Nat → Option Addr → Nat → List Er → Prop := SlAt 5 (fun w B b o x => ErAt w b o x ∧ x.fmt.size ≤ fmtMax)
def ZnAt (w : World) (b o : Nat) (z : Zn) : Prop := w.cell? ⟨b, o, none⟩ = some (.string z.name) ∧ w.cell? ⟨b, o + 1, none⟩ = some (.slice z.A z.n z.cap)
def ZonesAt : World → Nat → Option Addr → Nat → List Zn → Prop := SlAt 2 (fun w B b o z => ZnAt w b o z ∧ z.name.size ≤ maxLen ∧ ErasAt w B z.A z.n z.es)
def StAt (w : World) (b o : Nat) (s : St) : Prop := w.cell? ⟨b, o, none⟩ = some (.string s.name) ∧ w.cell? ⟨b, o + 1, none⟩ = some (.slice s.A s.n s.cap)
def SetsAt : World → Nat → Option Addr → Nat → List St → Prop := SlAt 2 (fun w B b o s => StAt w b o s ∧ s.name.size ≤ maxLen ∧ RulesAt w B s.A s.n s.rs)
def LkAt (w : World) (b o : Nat) (l : Lk) : Prop := w.cell? ⟨b, o, none⟩ = some (.string l.name) ∧ w.cell? ⟨b, o + 1, none⟩ = some (.string l.to)
def LinksAt : World → Nat → Option Addr → Nat → List Lk → Prop := SlAt 2 (fun w B b o l => LkAt w b o l ∧ l.name.size ≤ maxLen ∧ l.to.size ≤ maxLen)
def DataAt (w : World) (B : Nat) (d : Dt) : Prop := SetsAt w B d.sA d.sn d.ss ∧ ZonesAt w B d.zA d.zn d.zs ∧ LinksAt w B d.lA d.ln d.ls ∧ d.ln ≤ fmtMax
theorem ErAt.below {w w' : World} {B b o : Nat} {x : Er} (h : ErAt w b o x) (hb : Below B w w') (hB : b < B) : ErAt w' b o x :=
  ⟨(hb.cell hB).trans h.1, (hb.cell hB).trans h.2.1, (hb.cell hB).trans h.2.2.1, (hb.cell hB).trans h.2.2.2.1, (hb.cell hB).trans h.2.2.2.2⟩
theorem ZnAt.below {w w' : World} {B b o : Nat} {x : Zn} (h : ZnAt w b o x) (hb : Below B w w') (hB : b < B) : ZnAt w' b o x := ⟨(hb.cell hB).trans h.1, (hb.cell hB).trans h.2⟩
theorem StAt.below {w w' : World} {B b o : Nat} {x : St} (h : StAt w b o x) (hb : Below B w w') (hB : b < B) : StAt w' b o x := ⟨(hb.cell hB).trans h.1, (hb.cell hB).trans h.2⟩
theorem LkAt.below {w w' : World} {B b o : Nat} {x : Lk} (h : LkAt w b o x) (hb : Below B w w') (hB : b < B) : LkAt w' b o x := ⟨(hb.cell hB).trans h.1, (hb.cell hB).trans h.2⟩
theorem keeps_er : Keeps (fun w B b o x => ErAt w b o x ∧ x.fmt.size ≤ fmtMax) := fun _ _ _ _ _ _ _ hb hB hbB h => ⟨h.1.below hb (by omega), h.2⟩
theorem keeps_zn : Keeps (fun w B b o z => ZnAt w b o z ∧ z.name.size ≤ maxLen ∧ ErasAt w B z.A z.n z.es) := fun _ _ _ _ _ _ _ hb hB hbB h =>
  ⟨h.1.below hb (by omega), h.2.1, SlAt.below keeps_er h.2.2 hb hB⟩
theorem keeps_st : Keeps (fun w B b o s => StAt w b o s ∧ s.name.size ≤ maxLen ∧ RulesAt w B s.A s.n s.rs) := fun _ _ _ _ _ _ _ hb hB hbB h =>
  ⟨h.1.below hb (by omega), h.2.1, (h.2.2.below hb hB).more hB⟩
theorem keeps_lk : Keeps (fun w B b o l => LkAt w b o l ∧ l.name.size ≤ maxLen ∧ l.to.size ≤ maxLen) := fun _ _ _ _ _ _ _ hb hB hbB h =>
  ⟨h.1.below hb (by omega), h.2.1, h.2.2⟩
theorem DataAt.below {w w' : World} {B B' : Nat} {d : Dt} (h : DataAt w B d) (hb : Below B' w w') (hB : B ≤ B') : DataAt w' B' d :=
  ⟨SlAt.below keeps_st h.1 hb hB, SlAt.below keeps_zn h.2.1 hb hB, SlAt.below keeps_lk h.2.2.1 hb hB, h.2.2.2⟩
/-- data as they lie at the call's beginning, seen in each later world. -/
theorem DataAt.next {w W : World} {d : Dt} (h : DataAt w w.heap.size d) (hb : Below w.heap.size w W) : DataAt W W.heap.size d :=
  (h.below hb (Nat.le_refl _)).below (B' := W.heap.size) (Below.refl _ _) hb.size
theorem _root_.Go.Proofs.YthhjgndaiimgjaaGreatDoor.RulesAt.get {w : World} {B : Nat} {A : Option Addr} {n : Nat} {l : List Rl} (h : RulesAt w B A n l) {i : Nat} (hi : i < n) :
    ∃ b o q, A = some ⟨b, o, none⟩ ∧ b < B ∧ l[i]? = some q ∧ q.le.size ≤ maxLen ∧ ∀ W, Below B w W → RuleAt W b (o + i * 9) q := by
  obtain ⟨b, o, hA, hbB, hc⟩ := h.2.2 (by omega)
  have hl : i < l.length := by rw [h.1]; exact hi
  have h1 := hc i _ (List.getElem?_eq_getElem hl)
  exact ⟨b, o, l[i], hA, hbB, List.getElem?_eq_getElem hl, h1.2, fun W hW => h1.1.below hW hbB⟩
theorem zones_get {w : World} {B : Nat} {A : Option Addr} {n : Nat} {l : List Zn} (h : ZonesAt w B A n l) {i : Nat} (hi : i < n) :
    ∃ b o q, A = some ⟨b, o, none⟩ ∧ b < B ∧ l[i]? = some q ∧ q.name.size ≤ maxLen ∧ ∀ W, Below B w W → ZnAt W b (o + i * 2) q ∧ ErasAt W B q.A q.n q.es := by
  obtain ⟨b, o, q, h1, h2, h3, h4⟩ := SlAt.get keeps_zn h hi
  exact ⟨b, o, q, h1, h2, h3, (h4 w (Below.refl _ _)).2.1, fun W hW => ⟨(h4 W hW).1, (h4 W hW).2.2⟩⟩
theorem sets_get {w : World} {B : Nat} {A : Option Addr} {n : Nat} {l : List St} (h : SetsAt w B A n l) {i : Nat} (hi : i < n) :
    ∃ b o q, A = some ⟨b, o, none⟩ ∧ b < B ∧ l[i]? = some q ∧ q.name.size ≤ maxLen ∧ ∀ W, Below B w W → StAt W b (o + i * 2) q ∧ RulesAt W B q.A q.n q.rs := by
  obtain ⟨b, o, q, h1, h2, h3, h4⟩ := SlAt.get keeps_st h hi
  exact ⟨b, o, q, h1, h2, h3, (h4 w (Below.refl _ _)).2.1, fun W hW => ⟨(h4 W hW).1, (h4 W hW).2.2⟩⟩
theorem links_get {w : World} {B : Nat} {A : Option Addr} {n : Nat} {l : List Lk} (h : LinksAt w B A n l) {i : Nat} (hi : i < n) :
    ∃ b o q, A = some ⟨b, o, none⟩ ∧ b < B ∧ l[i]? = some q ∧ q.name.size ≤ maxLen ∧ q.to.size ≤ maxLen ∧ ∀ W, Below B w W → LkAt W b (o + i * 2) q := by
  obtain ⟨b, o, q, h1, h2, h3, h4⟩ := SlAt.get keeps_lk h hi
  exact ⟨b, o, q, h1, h2, h3, (h4 w (Below.refl _ _)).2.1, (h4 w (Below.refl _ _)).2.2, fun W hW => (h4 W hW).1⟩
theorem eras_get {w : World} {B : Nat} {A : Option Addr} {n : Nat} {l : List Er} (h : ErasAt w B A n l) {i : Nat} (hi : i < n) :
    ∃ b o q, A = some ⟨b, o, none⟩ ∧ b < B ∧ l[i]? = some q ∧ q.fmt.size ≤ fmtMax ∧ ∀ W, Below B w W → ErAt W b (o + i * 5) q := by
  obtain ⟨b, o, q, h1, h2, h3, h4⟩ := SlAt.get keeps_er h hi
  exact ⟨b, o, q, h1, h2, h3, (h4 w (Below.refl _ _)).2, fun W hW => (h4 W hW).1⟩
end Gno
end
/-! The walks of data.must and data.era. -/
section
set_option linter.unusedVariables false
set_option linter.unusedSimpArgs false
namespace Go.Proofs.YthhjgndaiimgjaaGreatDoor
open Go.RowKit Gno
/-- what is thrown where something must not be. -/
def thrown (e : Int) : List PanicEntry := [{ v := .iface 87 (.agg #[.int .i64 e]), recovered := false }]
theorem must_yes (e : Int) (w : World) : Calls Tryz.prog 35 #[.bool true, .int .i64 e] w fun x w' => x = .returned (.tuple #[]) ∧ w = w' := by
  go_enter Tryz.func35, Tryz.ntmps35
  go_wp2
  go_end0
  exact ⟨rfl, rfl⟩
theorem must_no (e : Int) (w : World) : Calls Tryz.prog 35 #[.bool false, .int .i64 e] w fun x w' => x = .panicked (thrown e) ∧ w = w' := by
  go_enter Tryz.func35, Tryz.ntmps35
  go_wp2
  exact ⟨rfl, rfl, rfl⟩
set_option maxHeartbeats 4000000 in
theorem era_any (d : Dt) (x : Er) (ahead : Int) (w : World) (hn : d.sn ≤ maxLen) :
    Calls Tryz.prog 48 #[d.val, x.val, .int .i64 ahead] w fun e w' => e = .returned (.bool (eraOk d.sn x ahead)) ∧ Below w.heap.size w w' := by
  unfold Dt.val Er.val
  unfold maxLen at hn
  go_enter Tryz.func48, Tryz.ntmps48
  go_wp2
  all_goals go_ret
  all_goals exact ⟨ret_bool (by rw [Bool.eq_iff_iff]; simp [eraOk]; omega), ((Below.refl _ _).alloc (Nat.le_refl _) _).alloc (by simp) _⟩
end Go.Proofs.YthhjgndaiimgjaaGreatDoor
end
/-! IndexFunc at zones and links; data.Lead; the reference's zoneAt, linkAt, follow. -/
section
set_option linter.unusedVariables false
set_option linter.unusedSimpArgs false
namespace Go.Proofs.YthhjgndaiimgjaaGreatDoor
open Go.RowKit Gno

/-- the function that is handed in tells p of each Zn. -/
def PredZone (P : Program) (g : Nat) (lb : Array Value) (p : Zn → Bool) (l : List Zn) (w : World) : Prop :=
  ∀ (W : World) (x : Zn), x ∈ l → Below w.heap.size w W → Calls P g (#[.agg #[.string x.name, .slice x.A x.n x.cap]] ++ lb) W fun e w' => e = .returned (.bool (p x)) ∧ Below W.heap.size W w'
set_option maxRecDepth 100000 in
set_option maxHeartbeats 4000000 in
theorem indexZone_any (g : Nat) (lb : Array Value) (eg : ∀ args w, (callFunc g args).run Tryz.prog w = .ok (.enter g args) w) (p : Zn → Bool) (A : Option Addr) (n cap : Nat) (l : List Zn) (w : World)
    (hR : ZonesAt w w.heap.size A n l) (hp : PredZone Tryz.prog g lb p l w) :
    Calls Tryz.prog 82 #[.slice A n cap, .func (.func g) #[] lb] w fun e w' => e = .returned (.int .i64 (fst p l 0)) ∧ Below w.heap.size w w' := by
  have hn : n ≤ 9223372036854775807 := hR.2.1
  have HR := Lib.hid hR
  have HP := Lib.hid hp
  clear hR hp
  go_enter Tryz.func82, Tryz.ntmps82
  go_wp2
  go_loopw [8] (fun b0 wr => ∃ i : Nat, i ≤ n ∧ b0 = .int .i64 i ∧ Hid (fst p (l.drop i) i = fst p l 0) ∧ Below w.heap.size w wr) (fun b0 _ => n - (intOf b0).toNat)
  case atStart => exact ⟨0, Nat.zero_le _, rfl, Lib.hid (by simp), Below.refl _ _⟩
  case round =>
    obtain ⟨i, hi, rfl, hfd, hb⟩ := hrel
    by_cases hlt : i < n
    · obtain ⟨b, o, q, hA, hbB, hq, hqs, hqq⟩ := zones_get HR.out hlt
      subst hA
      obtain ⟨⟨e0, e1⟩, hqe⟩ := hqq _ hb
      have hmem : q ∈ l := List.mem_of_getElem? hq
      have FD := Lib.hid (fst_drop (p := p) hq)
      have c := HP.out wr q hmem hb
      clear hq hqq hmem
      cases hpk : p q
      · rw [hpk] at c
        have C := Lib.hid c
        have HX := Lib.hid ((FD.out.2 hpk).symm.trans hfd.out)
        clear c hfd hpk
        go_wp2_with (go_at_fn g; (with_reducible refine C.out.mono ?_); rintro e w4 ⟨rfl, hb4⟩; have hb5 := hb.trans (hb4.mono hb.size); clear hb4)
        go_roundw
        case rel => exact ⟨i + 1, by omega, by go_num, HX, hb5⟩
        case measure => simp [intOf]; omega
      · rw [hpk] at c
        have C := Lib.hid c
        have HX := Lib.hid ((FD.out.1 hpk).symm.trans hfd.out)
        clear c hfd hpk
        go_wp2_with (go_at_fn g; (with_reducible refine C.out.mono ?_); rintro e w4 ⟨rfl, hb4⟩; have hb5 := hb.trans (hb4.mono hb.size); clear hb4)
        go_ret
        exact ⟨ret_int HX.out, hb5⟩
    · have HX := Lib.hid ((fst_end (p := p) (by have := HR.out.1; omega)).symm.trans hfd.out)
      go_wp2
      go_ret
      exact ⟨ret_int HX.out, hb⟩

/-- the function that is handed in tells p of each Lk. -/
def PredLink (P : Program) (g : Nat) (lb : Array Value) (p : Lk → Bool) (l : List Lk) (w : World) : Prop :=
  ∀ (W : World) (x : Lk), x ∈ l → Below w.heap.size w W → Calls P g (#[.agg #[.string x.name, .string x.to]] ++ lb) W fun e w' => e = .returned (.bool (p x)) ∧ Below W.heap.size W w'
set_option maxRecDepth 100000 in
set_option maxHeartbeats 4000000 in
theorem indexLink_any (g : Nat) (lb : Array Value) (eg : ∀ args w, (callFunc g args).run Tryz.prog w = .ok (.enter g args) w) (p : Lk → Bool) (A : Option Addr) (n cap : Nat) (l : List Lk) (w : World)
    (hR : LinksAt w w.heap.size A n l) (hp : PredLink Tryz.prog g lb p l w) :
    Calls Tryz.prog 84 #[.slice A n cap, .func (.func g) #[] lb] w fun e w' => e = .returned (.int .i64 (fst p l 0)) ∧ Below w.heap.size w w' := by
  have hn : n ≤ 9223372036854775807 := hR.2.1
  have HR := Lib.hid hR
  have HP := Lib.hid hp
  clear hR hp
  go_enter Tryz.func84, Tryz.ntmps84
  go_wp2
  go_loopw [8] (fun b0 wr => ∃ i : Nat, i ≤ n ∧ b0 = .int .i64 i ∧ Hid (fst p (l.drop i) i = fst p l 0) ∧ Below w.heap.size w wr) (fun b0 _ => n - (intOf b0).toNat)
  case atStart => exact ⟨0, Nat.zero_le _, rfl, Lib.hid (by simp), Below.refl _ _⟩
  case round =>
    obtain ⟨i, hi, rfl, hfd, hb⟩ := hrel
    by_cases hlt : i < n
    · obtain ⟨b, o, q, hA, hbB, hq, hqs, hqs2, hqq⟩ := links_get HR.out hlt
      subst hA
      obtain ⟨e0, e1⟩ := hqq _ hb
      have hmem : q ∈ l := List.mem_of_getElem? hq
      have FD := Lib.hid (fst_drop (p := p) hq)
      have c := HP.out wr q hmem hb
      clear hq hqq hmem
      cases hpk : p q
      · rw [hpk] at c
        have C := Lib.hid c
        have HX := Lib.hid ((FD.out.2 hpk).symm.trans hfd.out)
        clear c hfd hpk
        go_wp2_with (go_at_fn g; (with_reducible refine C.out.mono ?_); rintro e w4 ⟨rfl, hb4⟩; have hb5 := hb.trans (hb4.mono hb.size); clear hb4)
        go_roundw
        case rel => exact ⟨i + 1, by omega, by go_num, HX, hb5⟩
        case measure => simp [intOf]; omega
      · rw [hpk] at c
        have C := Lib.hid c
        have HX := Lib.hid ((FD.out.1 hpk).symm.trans hfd.out)
        clear c hfd hpk
        go_wp2_with (go_at_fn g; (with_reducible refine C.out.mono ?_); rintro e w4 ⟨rfl, hb4⟩; have hb5 := hb.trans (hb4.mono hb.size); clear hb4)
        go_ret
        exact ⟨ret_int HX.out, hb5⟩
    · have HX := Lib.hid ((fst_end (p := p) (by have := HR.out.1; omega)).symm.trans hfd.out)
      go_wp2
      go_ret
      exact ⟨ret_int HX.out, hb⟩
end Go.Proofs.YthhjgndaiimgjaaGreatDoor
end
/-! data.Lead; the reference's zoneAt, linkAt, follow. -/
section
set_option linter.unusedVariables false
set_option linter.unusedSimpArgs false
namespace Gno
open Go
theorem lead_zone {d : Dt} {f : Nat} {nm : ByteArray} (h : 0 ≤ zoneN d nm) : leadT d (f + 1) nm = zoneN d nm := by
  unfold leadT; rw [if_pos h]
theorem lead_none {d : Dt} {f : Nat} {nm : ByteArray} (h : ¬ 0 ≤ zoneN d nm) (h2 : linkN d nm < 0) : leadT d (f + 1) nm = -1 := by
  unfold leadT; rw [if_neg h]
  cases d.ls[(linkN d nm).toNat]? with
  | none => rfl
  | some l => simp only; rw [if_pos h2]
theorem lead_link {d : Dt} {f : Nat} {nm : ByteArray} {l : Lk} (h : ¬ 0 ≤ zoneN d nm) (h2 : ¬ linkN d nm < 0) (hl : d.ls[(linkN d nm).toNat]? = some l) : leadT d (f + 1) nm = leadT d f l.to := by
  rw [leadT, if_neg h, hl]
  simp only
  rw [if_neg h2]
theorem linkN_range (d : Dt) (nm : ByteArray) : -1 ≤ linkN d nm ∧ linkN d nm < d.ls.length := by
  unfold linkN
  rcases fst_range (isLink nm) d.ls 0 (by omega) with e | e <;> omega
end Gno
namespace Go.Proofs.YthhjgndaiimgjaaGreatDoor
open Go.RowKit Gno
abbrev Dobj (d : Dt) : Obj := .cells #[.slice d.sA d.sn d.sc, .slice d.zA d.zn d.zc, .slice d.lA d.ln d.lc] 26
theorem leadZ_any (o : Nat) (nm : ByteArray) (x : Zn) (w : World) (hc : w.cell? ⟨o, 0, none⟩ = some (.string nm)) (ho : o < w.heap.size) :
    Calls Tryz.prog 83 #[.agg #[.string x.name, .slice x.A x.n x.cap], .pointer (some ⟨o, 0, none⟩)] w fun e w' => e = .returned (.bool (isZone nm x)) ∧ Below w.heap.size w w' := by
  have hc2 : (w.alloc (.cells #[.string x.name, .slice x.A x.n x.cap] 57)).cell? ⟨o, 0, none⟩ = some (.string nm) := (((Below.refl _ _).alloc (Nat.le_refl _) _).cell ho).trans hc
  go_enter Tryz.func83, Tryz.ntmps83
  go_wp2
  go_ret
  exact ⟨ret_bool rfl, (Below.refl _ _).alloc (Nat.le_refl _) _⟩
theorem leadL_any (o : Nat) (nm : ByteArray) (x : Lk) (w : World) (hc : w.cell? ⟨o, 0, none⟩ = some (.string nm)) (ho : o < w.heap.size) :
    Calls Tryz.prog 85 #[.agg #[.string x.name, .string x.to], .pointer (some ⟨o, 0, none⟩)] w fun e w' => e = .returned (.bool (isLink nm x)) ∧ Below w.heap.size w w' := by
  have hc2 : (w.alloc (.cells #[.string x.name, .string x.to] 61)).cell? ⟨o, 0, none⟩ = some (.string nm) := (((Below.refl _ _).alloc (Nat.le_refl _) _).cell ho).trans hc
  go_enter Tryz.func85, Tryz.ntmps85
  go_wp2
  go_ret
  exact ⟨ret_bool rfl, (Below.refl _ _).alloc (Nat.le_refl _) _⟩
set_option maxRecDepth 100000 in
set_option maxHeartbeats 4000000 in
theorem lead_any (d : Dt) (nm : ByteArray) (w : World) (hD : DataAt w w.heap.size d) :
    Calls Tryz.prog 51 #[d.val, .string nm] w fun e w' => e = .returned (.int .i64 (leadN d nm)) ∧ Below w.heap.size w w' := by
  have hmf : ∀ (fn : Fn) (first cap : Array Value) (w : World), (Instr.makeFunc fn first cap).run Tryz.prog w = .ok (.func fn first cap) w := fun _ _ _ _ => rfl
  have hln : d.ln ≤ 4294967280 := hD.2.2.2
  have HL : Hid (d.ls.length = d.ln) := Lib.hid hD.2.2.1.1
  have HD := Lib.hid hD
  have HV : Hid (leadT d (d.ln + 1 - 0) nm = leadN d nm) := Lib.hid (by unfold leadN; rw [HL.out]; rfl)
  clear hD
  unfold Dt.val
  go_enter Tryz.func51, Tryz.ntmps51
  go_wp2
  go_loopw [11] (fun b11 wr => ∃ (i : Nat) (v : ByteArray), i ≤ d.ln + 1 ∧ b11 = .int .i64 i ∧ wr.cell? ⟨w.heap.size + 1, 0, none⟩ = some (.string v) ∧ wr.frozen? ⟨w.heap.size + 1, 0, none⟩ = false ∧ Hid (leadT d (d.ln + 1 - i) v = leadN d nm) ∧
    wr.cell? ⟨w.heap.size, 1, none⟩ = some (.slice d.zA d.zn d.zc) ∧ wr.cell? ⟨w.heap.size, 2, none⟩ = some (.slice d.lA d.ln d.lc) ∧ Below w.heap.size w wr ∧ w.heap.size + 2 ≤ wr.heap.size) (fun b11 _ => d.ln + 1 - (intOf b11).toNat)
  case atStart =>
    refine ⟨0, nm, Nat.zero_le _, rfl, ?_, ?_, HV, ?_, ?_, ((Below.refl _ _).alloc (Nat.le_refl _) _).alloc (by simp) _, by simp⟩
    · rw [World.cell?_alloc_at _ _ _ _ (by simp)]; rfl
    · exact World.frozen?_alloc_at _ _ _ _ (by simp)
    · rw [World.cell?_alloc_past _ _ _ (by simp), World.cell?_alloc_at _ _ _ _ rfl]; rfl
    · rw [World.cell?_alloc_past _ _ _ (by simp), World.cell?_alloc_at _ _ _ _ rfl]; rfl
  case round =>
    clear HV
    obtain ⟨i, v, hi, rfl, c0, f0, hfd, z1, z2, hb, hz⟩ := hrel
    by_cases hlt : i < d.ln + 1
    · have hf : d.ln + 1 - i = (d.ln - i) + 1 := by omega
      rw [hf] at hfd
      have IZ := Lib.hid (indexZone_any 83 #[.pointer (some ⟨w.heap.size + 1, 0, none⟩)] (enters_of Tryz.func83 (by kernel_rfl) rfl) (isZone v) d.zA d.zn d.zc d.zs wr ((HD.out.next hb).2.1)
        (fun W x hx hW => leadZ_any (w.heap.size + 1) v x W ((hW.cell (by show w.heap.size + 1 < wr.heap.size; omega)).trans c0) (by have := hW.size; omega)))
      by_cases hzn : 0 ≤ zoneN d v
      · have HX := Lib.hid ((lead_zone (f := d.ln - i) hzn).symm.trans hfd.out)
        have hzb : decide (0 ≤ zoneN d v) = true := by simpa using hzn
        have IZ2 : Hid (Calls Tryz.prog 82 #[.slice d.zA d.zn d.zc, .func (.func 83) #[] #[.pointer (some ⟨w.heap.size + 1, 0, none⟩)]] wr fun e w' => e = .returned (.int .i64 (zoneN d v)) ∧ Below wr.heap.size wr w') := IZ
        clear IZ hfd hf hzn
        go_wp2_with (go_at_call 82; (with_reducible refine IZ2.out.mono ?_); rintro e w4 ⟨rfl, hb4⟩)
        go_ret
        exact ⟨ret_int HX.out, hb.trans (hb4.mono hb.size)⟩
      · have hzb : decide (0 ≤ zoneN d v) = false := by simpa using hzn
        have IZ2 : Hid (Calls Tryz.prog 82 #[.slice d.zA d.zn d.zc, .func (.func 83) #[] #[.pointer (some ⟨w.heap.size + 1, 0, none⟩)]] wr fun e w' => e = .returned (.int .i64 (zoneN d v)) ∧ Below wr.heap.size wr w') := IZ
        have IL : Hid (∀ w4, Below wr.heap.size wr w4 → Calls Tryz.prog 84 #[.slice d.lA d.ln d.lc, .func (.func 85) #[] #[.pointer (some ⟨w.heap.size + 1, 0, none⟩)]] w4 fun e w' => e = .returned (.int .i64 (linkN d v)) ∧ Below w4.heap.size w4 w') := Lib.hid (fun w4 h4 =>
          indexLink_any 85 #[.pointer (some ⟨w.heap.size + 1, 0, none⟩)] (enters_of Tryz.func85 (by kernel_rfl) rfl) (isLink v) d.lA d.ln d.lc d.ls w4 ((HD.out.next (hb.trans (h4.mono hb.size))).2.2.1)
            (fun W x hx hW => leadL_any (w.heap.size + 1) v x W ((hW.cell (by show w.heap.size + 1 < w4.heap.size; have := h4.size; omega)).trans ((h4.cell (by show w.heap.size + 1 < wr.heap.size; omega)).trans c0)) (by have := hW.size; have := h4.size; omega)))
        have hlr := linkN_range d v
        rw [HL.out] at hlr
        obtain ⟨hl1, hl2⟩ := hlr
        have HK : Hid (∀ w4, Below wr.heap.size wr w4 → w4.cell? ⟨w.heap.size, 1, none⟩ = some (.slice d.zA d.zn d.zc) ∧ w4.cell? ⟨w.heap.size, 2, none⟩ = some (.slice d.lA d.ln d.lc) ∧ w4.cell? ⟨w.heap.size + 1, 0, none⟩ = some (.string v) ∧ w4.frozen? ⟨w.heap.size + 1, 0, none⟩ = false) := Lib.hid (fun w4 h4 =>
          ⟨(h4.cell (by show w.heap.size < _; omega)).trans z1, (h4.cell (by show w.heap.size < _; omega)).trans z2, (h4.cell (by show w.heap.size + 1 < _; omega)).trans c0, (h4.frozen (by show w.heap.size + 1 < _; omega)).trans f0⟩)
        by_cases hll : linkN d v < 0
        · have HX := Lib.hid ((lead_none (f := d.ln - i) hzn hll).symm.trans hfd.out)
          have hlb : decide (linkN d v < 0) = true := by simpa using hll
          clear IZ hfd hf hzn
          go_wp2_with (first
            | (go_at_call 82; (with_reducible refine IZ2.out.mono ?_); rintro e w4 ⟨rfl, hb4⟩; obtain ⟨k1, k2, k3, k4⟩ := HK.out _ hb4)
            | (go_at_call 84; (with_reducible refine (IL.out _ hb4).mono ?_); rintro e w5 ⟨rfl, hb5⟩; have hb6 := hb4.trans (hb5.mono hb4.size); clear hb4 hb5))
          go_ret
          exact ⟨ret_int HX.out, hb.trans (hb6.mono hb.size)⟩
        · obtain ⟨b, o, q, hA, hbB, hq, hqs, hqs2, hqq⟩ := links_get HD.out.2.2.1 (i := (linkN d v).toNat) (by omega)
          have HX := Lib.hid ((lead_link (f := d.ln - i) hzn hll hq).symm.trans hfd.out)
          have hlb : decide (linkN d v < 0) = false := by simpa using hll
          have HQ := Lib.hid hqq
          have HK2 : Hid (∀ w5, Below wr.heap.size wr w5 → w5.cell? ⟨b, o + (linkN d v).toNat * 2, none⟩ = some (.string q.name) ∧ w5.cell? ⟨b, o + (linkN d v).toNat * 2 + 1, none⟩ = some (.string q.to)) := Lib.hid (fun w5 h5 => HQ.out _ (hb.trans (h5.mono hb.size)))
          rw [hA] at HK IL
          have HA2 := Lib.hid hA
          clear IZ hfd hf hzn hq hqq hA
          go_wp2_with (first
            | (go_at_call 82; (with_reducible refine IZ2.out.mono ?_); rintro e w4 ⟨rfl, hb4⟩; obtain ⟨k1, k2, k3, k4⟩ := HK.out _ hb4)
            | (go_at_call 84; (with_reducible refine (IL.out _ hb4).mono ?_); rintro e w5 ⟨rfl, hb5⟩; have hb6 := hb4.trans (hb5.mono hb4.size); clear hb4 hb5 k1 k2 k3 k4; obtain ⟨k1, k2, k3, k4⟩ := HK.out _ hb6; obtain ⟨m0, m1⟩ := HK2.out _ hb6))
          have hb7 : Below w.heap.size w w5 := hb.trans (hb6.mono hb.size)
          have hz7 := hb6.size
          go_roundw
          case rel =>
            refine ⟨i + 1, q.to, by omega, by go_num, World.cell?_setCell_same _ _ _ k3, by rw [World.frozen?_setCell]; exact k4, ?_, ?_, ?_, hb7.setCell (by simp) _, by simp; omega⟩
            · exact Lib.hid (by have := HX.out; rw [show d.ln + 1 - (i + 1) = d.ln - i by omega]; exact this)
            · rw [World.cell?_setCell_far _ _ _ _ (by simp)]; exact k1
            · rw [World.cell?_setCell_far _ _ _ _ (by simp), HA2.out]; exact k2
          case measure => simp [intOf]; omega
    · have HX : Hid (leadN d nm = -1) := Lib.hid (by
        have := hfd.out
        rw [show d.ln + 1 - i = 0 by omega] at this
        exact this.symm)
      go_wp2
      go_ret
      exact ⟨ret_int HX.out.symm, hb⟩
end Go.Proofs.YthhjgndaiimgjaaGreatDoor
end
/-! gnomonref.zoneAt, linkAt, follow, eraFine. -/
section
set_option linter.unusedVariables false
set_option linter.unusedSimpArgs false
namespace Go.Proofs.YthhjgndaiimgjaaGreatDoor
open Go.RowKit Gno
set_option maxRecDepth 100000 in
set_option maxHeartbeats 4000000 in
theorem zoneN_any (d : Dt) (s : ByteArray) (w : World) (hD : DataAt w w.heap.size d) :
    Calls Tryz.prog 22 #[d.val, .string s] w fun e w' => e = .returned (.int .i64 (zoneN d s)) ∧ Below w.heap.size w w' := by
  have HD := Lib.hid (hD.2.1)
  have hn : d.zn ≤ 9223372036854775807 := HD.out.2.1
  have HLE := Lib.hid HD.out.1
  have hb0 : Below w.heap.size w (w.alloc (Dobj d)) := (Below.refl _ _).alloc (Nat.le_refl _) _
  have HB0 := Lib.hid hb0
  clear hD hb0
  unfold Dt.val
  go_enter Tryz.func22, Tryz.ntmps22
  go_wp2
  go_loopw [5] (fun b wr => ∃ i : Nat, i ≤ d.zn ∧ b = .int .i64 i ∧ Hid (fst (isZone s) (d.zs.drop i) i = zoneN d s) ∧ wr.cell? ⟨w.heap.size, 1, none⟩ = some (.slice d.zA d.zn d.zc) ∧ Below w.heap.size w wr) (fun b _ => d.zn - (intOf b).toNat)
  case atStart => exact ⟨0, Nat.zero_le _, rfl, Lib.hid (by rw [List.drop_zero]; rfl), by simp, HB0.out⟩
  case round =>
    obtain ⟨i, hi, rfl, hfi, hc, hb⟩ := hrel
    by_cases hit : i < d.zn
    · obtain ⟨b, o, q, hA, hbB, hq, hqs, hqq⟩ := zones_get HD.out hit
      have FD := Lib.hid (fst_drop (p := isZone s) hq)
      obtain ⟨⟨e0, e1⟩, _⟩ := hqq _ hb
      rw [hA] at hc
      have HA := Lib.hid hA
      clear hq hqq hA
      cases h1 : isZone s q
      · have HX := Lib.hid ((FD.out.2 h1).symm.trans hfi.out)
        have g1 : (q.name.toList == s.toList) = false := h1
        clear h1 hfi FD
        go_wp2
        go_roundw
        case rel => exact ⟨i + 1, by omega, by go_num, HX, by rw [HA.out]; exact hc, hb⟩
        case measure => simp [intOf]; omega
      · have HX := Lib.hid ((FD.out.1 h1).symm.trans hfi.out)
        have g1 : (q.name.toList == s.toList) = true := h1
        clear h1 hfi FD
        go_wp2
        go_ret
        exact ⟨ret_int HX.out, hb⟩
    · have HX : Hid (zoneN d s = -1) := Lib.hid (by rw [← hfi.out]; exact fst_end (by rw [HLE.out]; exact hit))
      clear hfi
      go_wp2
      go_ret
      exact ⟨ret_int HX.out.symm, hb⟩
set_option maxRecDepth 100000 in
set_option maxHeartbeats 4000000 in
theorem linkN_any (d : Dt) (s : ByteArray) (w : World) (hD : DataAt w w.heap.size d) :
    Calls Tryz.prog 23 #[d.val, .string s] w fun e w' => e = .returned (.int .i64 (linkN d s)) ∧ Below w.heap.size w w' := by
  have HD := Lib.hid (hD.2.2.1)
  have hn : d.ln ≤ 9223372036854775807 := HD.out.2.1
  have HLE := Lib.hid HD.out.1
  have hb0 : Below w.heap.size w (w.alloc (Dobj d)) := (Below.refl _ _).alloc (Nat.le_refl _) _
  have HB0 := Lib.hid hb0
  clear hD hb0
  unfold Dt.val
  go_enter Tryz.func23, Tryz.ntmps23
  go_wp2
  go_loopw [5] (fun b wr => ∃ i : Nat, i ≤ d.ln ∧ b = .int .i64 i ∧ Hid (fst (isLink s) (d.ls.drop i) i = linkN d s) ∧ wr.cell? ⟨w.heap.size, 2, none⟩ = some (.slice d.lA d.ln d.lc) ∧ Below w.heap.size w wr) (fun b _ => d.ln - (intOf b).toNat)
  case atStart => exact ⟨0, Nat.zero_le _, rfl, Lib.hid (by rw [List.drop_zero]; rfl), by simp, HB0.out⟩
  case round =>
    obtain ⟨i, hi, rfl, hfi, hc, hb⟩ := hrel
    by_cases hit : i < d.ln
    · obtain ⟨b, o, q, hA, hbB, hq, hqs, _, hqq⟩ := links_get HD.out hit
      have FD := Lib.hid (fst_drop (p := isLink s) hq)
      obtain ⟨e0, e1⟩ := hqq _ hb
      rw [hA] at hc
      have HA := Lib.hid hA
      clear hq hqq hA
      cases h1 : isLink s q
      · have HX := Lib.hid ((FD.out.2 h1).symm.trans hfi.out)
        have g1 : (q.name.toList == s.toList) = false := h1
        clear h1 hfi FD
        go_wp2
        go_roundw
        case rel => exact ⟨i + 1, by omega, by go_num, HX, by rw [HA.out]; exact hc, hb⟩
        case measure => simp [intOf]; omega
      · have HX := Lib.hid ((FD.out.1 h1).symm.trans hfi.out)
        have g1 : (q.name.toList == s.toList) = true := h1
        clear h1 hfi FD
        go_wp2
        go_ret
        exact ⟨ret_int HX.out, hb⟩
    · have HX : Hid (linkN d s = -1) := Lib.hid (by rw [← hfi.out]; exact fst_end (by rw [HLE.out]; exact hit))
      clear hfi
      go_wp2
      go_ret
      exact ⟨ret_int HX.out.symm, hb⟩
set_option maxRecDepth 100000 in
set_option maxHeartbeats 4000000 in
theorem follow_any (d : Dt) (nm : ByteArray) (w : World) (hD : DataAt w w.heap.size d) :
    Calls Tryz.prog 24 #[d.val, .string nm] w fun e w' => e = .returned (.int .i64 (leadN d nm)) ∧ Below w.heap.size w w' := by
  have hln : d.ln ≤ 4294967280 := hD.2.2.2
  have HL : Hid (d.ls.length = d.ln) := Lib.hid hD.2.2.1.1
  have HD := Lib.hid hD
  have HV : Hid (leadT d (d.ln + 1 - 0) nm = leadN d nm) := Lib.hid (by unfold leadN; rw [HL.out]; rfl)
  have CZ : Hid (∀ s W, Below w.heap.size w W → Calls Tryz.prog 22 #[.agg #[.slice d.sA d.sn d.sc, .slice d.zA d.zn d.zc, .slice d.lA d.ln d.lc], .string s] W fun e w' => e = .returned (.int .i64 (zoneN d s)) ∧ Below W.heap.size W w') := Lib.hid (fun s W hb => zoneN_any d s W (hD.next hb))
  have CL : Hid (∀ s W, Below w.heap.size w W → Calls Tryz.prog 23 #[.agg #[.slice d.sA d.sn d.sc, .slice d.zA d.zn d.zc, .slice d.lA d.ln d.lc], .string s] W fun e w' => e = .returned (.int .i64 (linkN d s)) ∧ Below W.heap.size W w') := Lib.hid (fun s W hb => linkN_any d s W (hD.next hb))
  have HB0 : Hid (Below w.heap.size w (w.alloc (Dobj d))) := Lib.hid ((Below.refl _ _).alloc (Nat.le_refl _) _)
  clear hD
  unfold Dt.val
  go_enter Tryz.func24, Tryz.ntmps24
  go_wp2
  go_loopw [1, 5] (fun b1 b5 wr => ∃ (i : Nat) (v : ByteArray), i ≤ d.ln + 1 ∧ b5 = .int .i64 i ∧ b1 = .string v ∧ Hid (leadT d (d.ln + 1 - i) v = leadN d nm) ∧
    Hid (Below (w.heap.size + 1) (w.alloc (Dobj d)) wr) ∧ Below w.heap.size w wr) (fun _ b5 _ => d.ln + 1 - (intOf b5).toNat)
  case atStart => exact ⟨0, nm, Nat.zero_le _, rfl, rfl, HV, Lib.hid (Below.refl _ _), HB0.out⟩
  case round =>
    clear HV
    obtain ⟨i, v, hi, rfl, rfl, hfd, hbx, hb⟩ := hrel
    have HC : Hid (∀ w4, Below wr.heap.size wr w4 → w4.cell? ⟨w.heap.size, 0, none⟩ = some (.slice d.sA d.sn d.sc) ∧ w4.cell? ⟨w.heap.size, 1, none⟩ = some (.slice d.zA d.zn d.zc) ∧ w4.cell? ⟨w.heap.size, 2, none⟩ = some (.slice d.lA d.ln d.lc)) := Lib.hid (fun w4 h4 => by
      have hz := hbx.out.size
      simp at hz
      have h5 := hbx.out.trans (h4.mono (by omega))
      exact ⟨(h5.cell (by simp)).trans (by simp), (h5.cell (by simp)).trans (by simp), (h5.cell (by simp)).trans (by simp)⟩)
    have HBX : Hid (∀ w4, Below wr.heap.size wr w4 → Below (w.heap.size + 1) (w.alloc (Dobj d)) w4) := Lib.hid (fun w4 h4 => hbx.out.trans (h4.mono (by have hz := hbx.out.size; simp at hz; omega)))
    obtain ⟨k0, k1, k2⟩ := HC.out _ (Below.refl _ _)
    by_cases hlt : i < d.ln + 1
    · have hf : d.ln + 1 - i = (d.ln - i) + 1 := by omega
      rw [hf] at hfd
      have IZ := Lib.hid (CZ.out v wr hb)
      have gle : decide ((i : Int) ≤ (d.ln : Int)) = true := by simp; omega
      by_cases hzn : 0 ≤ zoneN d v
      · have HX := Lib.hid ((lead_zone (f := d.ln - i) hzn).symm.trans hfd.out)
        have hzb : decide (0 ≤ zoneN d v) = true := by simpa using hzn
        clear hfd hf hzn hbx
        go_wp2_with (go_at_call 22; (with_reducible refine IZ.out.mono ?_); rintro e w4 ⟨rfl, hb4⟩)
        go_ret
        exact ⟨ret_int HX.out, hb.trans (hb4.mono hb.size)⟩
      · have hzb : decide (0 ≤ zoneN d v) = false := by simpa using hzn
        have hlr := linkN_range d v
        rw [HL.out] at hlr
        obtain ⟨hl1, hl2⟩ := hlr
        by_cases hll : linkN d v < 0
        · have HX := Lib.hid ((lead_none (f := d.ln - i) hzn hll).symm.trans hfd.out)
          have hlb : decide (linkN d v < 0) = true := by simpa using hll
          clear hfd hf hzn hbx
          go_wp2_with (first
            | (go_at_call 22; (with_reducible refine IZ.out.mono ?_); rintro e w4 ⟨rfl, hb4⟩; have hb5 := hb.trans (hb4.mono hb.size); clear k0 k1 k2; obtain ⟨k0, k1, k2⟩ := HC.out _ hb4)
            | (go_at_call 23; (with_reducible refine (CL.out _ _ hb5).mono ?_); rintro e w5 ⟨rfl, hb6⟩))
          go_ret
          exact ⟨ret_int HX.out, hb5.trans (hb6.mono hb5.size)⟩
        · obtain ⟨b, o, q, hA, hbB, hq, hqs, hqs2, hqq⟩ := links_get HD.out.2.2.1 (i := (linkN d v).toNat) (by omega)
          have HX := Lib.hid ((lead_link (f := d.ln - i) hzn hll hq).symm.trans hfd.out)
          have hlb : decide (linkN d v < 0) = false := by simpa using hll
          have HQ := Lib.hid hqq
          rw [hA] at HC IZ CL k2
          have HA2 := Lib.hid hA
          clear hfd hf hzn hq hqq hA hbx
          go_wp2_with (first
            | (go_at_call 22; (with_reducible refine IZ.out.mono ?_); rintro e w4 ⟨rfl, hb4⟩; have hb5 := hb.trans (hb4.mono hb.size); clear k0 k1 k2; obtain ⟨k0, k1, k2⟩ := HC.out _ hb4)
            | (go_at_call 23; (with_reducible refine (CL.out _ _ hb5).mono ?_); rintro e w5 ⟨rfl, hb6⟩; have hb7 := hb4.trans (hb6.mono hb4.size); have hb8 := hb5.trans (hb6.mono hb5.size); clear k0 k1 k2; obtain ⟨k0, k1, k2⟩ := HC.out _ hb7; obtain ⟨m0, m1⟩ := HQ.out _ hb8))
          go_roundw
          case rel => exact ⟨i + 1, q.to, by omega, by go_num, rfl, Lib.hid (by have := HX.out; rw [show d.ln + 1 - (i + 1) = d.ln - i by omega]; exact this), Lib.hid (HBX.out _ hb7), hb8⟩
          case measure => simp [intOf]; omega
    · have HX : Hid (leadN d nm = -1) := Lib.hid (by
        have := hfd.out
        rw [show d.ln + 1 - i = 0 by omega] at this
        exact this.symm)
      have gle : decide ((i : Int) ≤ (d.ln : Int)) = false := by simp; omega
      clear hfd hbx
      go_wp2
      go_ret
      exact ⟨ret_int HX.out.symm, hb⟩
end Go.Proofs.YthhjgndaiimgjaaGreatDoor
end
/-! gnomonref.eraFine. -/
section
set_option linter.unusedVariables false
set_option linter.unusedSimpArgs false
namespace Go.Proofs.YthhjgndaiimgjaaGreatDoor
open Go.RowKit Gno
theorem eraOk_iff (ns : Int) (x : Er) (ahead : Int) : eraOk ns x ahead = true ↔ (-50400 ≤ x.std ∧ x.std ≤ 50400) ∧ (-1 ≤ x.set ∧ x.set < ns) ∧ (0 ≤ x.save ∧ x.save ≤ 7200) ∧ (x.set < 0 ∨ x.save = 0) ∧ ahead < x.til := by
  unfold eraOk; simp only [Bool.and_eq_true, decide_eq_true_eq]
theorem eraOk_no {ns : Int} {x : Er} {ahead : Int} (h : ¬ ((-50400 ≤ x.std ∧ x.std ≤ 50400) ∧ (-1 ≤ x.set ∧ x.set < ns) ∧ (0 ≤ x.save ∧ x.save ≤ 7200) ∧ (x.set < 0 ∨ x.save = 0) ∧ ahead < x.til)) : false = eraOk ns x ahead := by
  cases h1 : eraOk ns x ahead
  · rfl
  · exact absurd ((eraOk_iff _ _ _).1 h1) h
set_option maxRecDepth 100000 in
set_option maxHeartbeats 4000000 in
theorem eraFine_any (d : Dt) (x : Er) (ahead : Int) (w : World) (hn : d.sn ≤ maxLen) :
    Calls Tryz.prog 20 #[d.val, x.val, .int .i64 ahead] w fun e w' => e = .returned (.bool (eraOk d.sn x ahead)) ∧ Below w.heap.size w w' := by
  unfold Dt.val Er.val
  unfold maxLen at hn
  have HB : Hid (Below w.heap.size w ((w.alloc (.cells #[.slice d.sA d.sn d.sc, .slice d.zA d.zn d.zc, .slice d.lA d.ln d.lc] 26)).alloc (.cells #[.int .i64 x.std, .int .i64 x.set, .int .i64 x.save, .string x.fmt, .int .i64 x.til] 59))) :=
    Lib.hid (((Below.refl _ _).alloc (Nat.le_refl _) _).alloc (by simp) _)
  cases h1 : stdOk x.std
  · have g1 := (isStd_any x.std); rw [h1] at g1
    have G1 := Lib.hid g1
    have HX := Lib.hid (eraOk_no (ns := d.sn) (x := x) (ahead := ahead) (fun h => by have := (stdOk_iff x.std).2 h.1; rw [h1] at this; cases this))
    clear g1 h1
    go_enter Tryz.func20, Tryz.ntmps20
    go_wp2_with (go_at_call 60; (with_reducible refine (G1.out _).mono ?_); rintro e w4 ⟨rfl, rfl⟩)
    go_ret
    exact ⟨ret_bool HX.out, HB.out⟩
  have g1 := (isStd_any x.std); rw [h1] at g1
  have G1 := Lib.hid g1
  have H1 := Lib.hid ((stdOk_iff x.std).1 h1)
  clear g1 h1
  cases h2 : withinB x.set (-1) ((d.sn : Int) - 1)
  · have g2 := (within_any x.set (-1) ((d.sn : Int) - 1)); rw [h2] at g2
    have G2 := Lib.hid g2
    have HX := Lib.hid (eraOk_no (ns := d.sn) (x := x) (ahead := ahead) (fun h => (withinB_no _ _ _).1 h2 ⟨h.2.1.1, by have := h.2.1.2; omega⟩))
    clear g2 h2
    go_enter Tryz.func20, Tryz.ntmps20
    go_wp2_with (first
      | (go_at_call 60; (with_reducible refine (G1.out _).mono ?_); rintro e w4 ⟨rfl, rfl⟩)
      | (go_at_call 16; (with_reducible refine (G2.out _).mono ?_); rintro e w4 ⟨rfl, rfl⟩))
    go_ret
    exact ⟨ret_bool HX.out, HB.out⟩
  have g2 := (within_any x.set (-1) ((d.sn : Int) - 1)); rw [h2] at g2
  have G2 := Lib.hid g2
  have H2 := Lib.hid ((withinB_iff _ _ _).1 h2)
  clear g2 h2
  cases h3 : withinB x.save 0 7200
  · have g3 := (within_any x.save 0 7200); rw [h3] at g3
    have G3 := Lib.hid g3
    have HX := Lib.hid (eraOk_no (ns := d.sn) (x := x) (ahead := ahead) (fun h => (withinB_no _ _ _).1 h3 h.2.2.1))
    clear g3 h3
    go_enter Tryz.func20, Tryz.ntmps20
    go_wp2_with (first
      | (go_at_call 60; (with_reducible refine (G1.out _).mono ?_); rintro e w4 ⟨rfl, rfl⟩)
      | (go_at_call 16; (with_reducible refine (G2.out _).mono ?_); rintro e w4 ⟨rfl, rfl⟩)
      | (go_at_call 16; (with_reducible refine (G3.out _).mono ?_); rintro e w4 ⟨rfl, rfl⟩))
    go_ret
    exact ⟨ret_bool HX.out, HB.out⟩
  have g3 := (within_any x.save 0 7200); rw [h3] at g3
  have G3 := Lib.hid g3
  have H3 := Lib.hid ((withinB_iff _ _ _).1 h3)
  clear g3 h3
  cases h6 : decide (ahead < x.til)
  · have HX6 := Lib.hid (eraOk_no (ns := d.sn) (x := x) (ahead := ahead) (fun h => by simp at h6; omega))
    cases h4 : (x.set == -1)
    · cases h5 : (x.save == 0)
      · go_enter Tryz.func20, Tryz.ntmps20
        go_wp2_with (first
          | (go_at_call 60; (with_reducible refine (G1.out _).mono ?_); rintro e w4 ⟨rfl, rfl⟩)
          | (go_at_call 16; (with_reducible refine (G2.out _).mono ?_); rintro e w4 ⟨rfl, rfl⟩)
          | (go_at_call 16; (with_reducible refine (G3.out _).mono ?_); rintro e w4 ⟨rfl, rfl⟩))
        go_ret
        exact ⟨ret_bool HX6.out, HB.out⟩
      · go_enter Tryz.func20, Tryz.ntmps20
        go_wp2_with (first
          | (go_at_call 60; (with_reducible refine (G1.out _).mono ?_); rintro e w4 ⟨rfl, rfl⟩)
          | (go_at_call 16; (with_reducible refine (G2.out _).mono ?_); rintro e w4 ⟨rfl, rfl⟩)
          | (go_at_call 16; (with_reducible refine (G3.out _).mono ?_); rintro e w4 ⟨rfl, rfl⟩))
        go_ret
        exact ⟨ret_bool HX6.out, HB.out⟩
    · go_enter Tryz.func20, Tryz.ntmps20
      go_wp2_with (first
        | (go_at_call 60; (with_reducible refine (G1.out _).mono ?_); rintro e w4 ⟨rfl, rfl⟩)
        | (go_at_call 16; (with_reducible refine (G2.out _).mono ?_); rintro e w4 ⟨rfl, rfl⟩)
        | (go_at_call 16; (with_reducible refine (G3.out _).mono ?_); rintro e w4 ⟨rfl, rfl⟩))
      go_ret
      exact ⟨ret_bool HX6.out, HB.out⟩
  · cases h4 : (x.set == -1)
    · cases h5 : (x.save == 0)
      · have HX := Lib.hid (eraOk_no (ns := d.sn) (x := x) (ahead := ahead) (fun h => by simp at h4 h5; omega))
        go_enter Tryz.func20, Tryz.ntmps20
        go_wp2_with (first
          | (go_at_call 60; (with_reducible refine (G1.out _).mono ?_); rintro e w4 ⟨rfl, rfl⟩)
          | (go_at_call 16; (with_reducible refine (G2.out _).mono ?_); rintro e w4 ⟨rfl, rfl⟩)
          | (go_at_call 16; (with_reducible refine (G3.out _).mono ?_); rintro e w4 ⟨rfl, rfl⟩))
        go_ret
        exact ⟨ret_bool HX.out, HB.out⟩
      · have HX := Lib.hid ((eraOk_iff d.sn x ahead).2 ⟨H1.out, ⟨H2.out.1, by have := H2.out.2; omega⟩, H3.out, .inr (by simpa using h5), by simpa using h6⟩)
        go_enter Tryz.func20, Tryz.ntmps20
        go_wp2_with (first
          | (go_at_call 60; (with_reducible refine (G1.out _).mono ?_); rintro e w4 ⟨rfl, rfl⟩)
          | (go_at_call 16; (with_reducible refine (G2.out _).mono ?_); rintro e w4 ⟨rfl, rfl⟩)
          | (go_at_call 16; (with_reducible refine (G3.out _).mono ?_); rintro e w4 ⟨rfl, rfl⟩))
        go_ret
        exact ⟨ret_bool HX.out.symm, HB.out⟩
    · have HX := Lib.hid ((eraOk_iff d.sn x ahead).2 ⟨H1.out, ⟨H2.out.1, by have := H2.out.2; omega⟩, H3.out, .inl (by simp at h4; omega), by simpa using h6⟩)
      go_enter Tryz.func20, Tryz.ntmps20
      go_wp2_with (first
        | (go_at_call 60; (with_reducible refine (G1.out _).mono ?_); rintro e w4 ⟨rfl, rfl⟩)
        | (go_at_call 16; (with_reducible refine (G2.out _).mono ?_); rintro e w4 ⟨rfl, rfl⟩)
        | (go_at_call 16; (with_reducible refine (G3.out _).mono ?_); rintro e w4 ⟨rfl, rfl⟩))
      go_ret
      exact ⟨ret_bool HX.out.symm, HB.out⟩
end Go.Proofs.YthhjgndaiimgjaaGreatDoor
end
/-! Plain: data that are the same (as in RwP, for a seat without tries). -/
section
set_option linter.unusedVariables false
set_option linter.unusedSimpArgs false
namespace Go.Proofs.YthhjgndaiimgjaaGreatDoor
open Go.RowKit Gno
/-- a set is so as another one; a zone. -/
def sameSt (s t : St) : Prop := t.name = s.name ∧ t.n = s.n ∧ t.rs = s.rs
def sameZn (s t : Zn) : Prop := t.name = s.name ∧ t.n = s.n ∧ t.es = s.es
/-- two data are the same. -/
structure SameD (d e : Dt) : Prop where
  sn : e.sn = d.sn
  zn : e.zn = d.zn
  ln : e.ln = d.ln
  ss : ∀ (i : Nat) s t, d.ss[i]? = some s → e.ss[i]? = some t → sameSt s t
  zs : ∀ (i : Nat) s t, d.zs[i]? = some s → e.zs[i]? = some t → sameZn s t
  ls : e.ls = d.ls
end Go.Proofs.YthhjgndaiimgjaaGreatDoor
end
