/- Parts of a proof, laid together. -/
import Derived.Deep.Slices
import Derived.Test.YtbbbeldbhlehnaaGreatDoorMUNmTl2
import Derived.Test.YtbbbeldbhlehnaaGreatDoorMUNmTl7
import Derived.Test.YtbbbeldbhlehnaaGreatDoorMUNmTl5
set_option linter.unusedSimpArgs false
set_option linter.unusedVariables false
/-! An argument of type []Book, opened. -/
section
set_option linter.unusedVariables false
set_option linter.unusedSimpArgs false
set_option maxRecDepth 100000
namespace Go.Proofs.YtbbbeldbhlehnaaGreatDoor
open Go.ChangeShapes Go.WideShapes Go.ChangeAt Go.RowKit Gno
theorem cellsInt' : Tryz.prog.cellsOf 3 = 1 := by kernel_rfl
theorem cellsString' : Tryz.prog.cellsOf 9 = 1 := by kernel_rfl
theorem cellsPair : Tryz.prog.cellsOf 163 = 2 := by kernel_rfl
theorem cellsBook : Tryz.prog.cellsOf 43 = 3 := by kernel_rfl
theorem cellsPairs : Tryz.prog.cellsOf 41 = 1 := by kernel_rfl
section
variable {H : Type} {enc : TypeId × Value → H} {w : World} {base : Nat} {spare : Nat → Bool} {held : Bool}
theorem openBooks {b0 : Nat} {r : Reach} {v : Value} {d : DataW H} {p : List MemPlace}
    (hv : Value.okWide Tryz.prog w r b0 28 v) (h : DataW.Trod enc Tryz.prog w base spare held 28 v d p) :
    ∃ (A : Option Addr) (n cap : Nat) (bs : List Bk), v = .slice A n cap ∧ BooksAt w w.heap.size A n bs := by
  obtain ⟨A, n, cap, l, e, _, _, h4⟩ := open_slice_top (α := Bk) (sz := 3) Tryz.underlying28 cellsBook (by omega) (fun w B b o k => BookAt w b o k ∧ k.loc.size ≤ maxLen ∧ PairsAt w B k.A k.n k.ps) (fun fuel cs x ht => by
    obtain ⟨xs, n, _, _, hl, hlen, hf⟩ := DataW.trod_struct Tryz.underlying43 ht
    match cs, hl.trans cellsBook with
    | [c0, c1, c2], _ =>
      have h0 := hf 0 _ rfl
      have h1 := hf 1 _ rfl
      have h2 := hf 2 _ rfl
      simp [cellsInt', cellsString', cellsPairs] at h0 h1 h2
      rw [List.getElem?_eq_getElem (by simp at hlen; omega)] at h0 h1 h2
      obtain ⟨loc, e0, _, hs⟩ := DataW.trod_string Tryz.underlying9 h0
      obtain ⟨par, e1, _⟩ := DataW.trod_int Tryz.underlying3 h1
      obtain ⟨A2, n2, cap2, ps, e2, _, _, hps⟩ := open_slice_gen (α := Pr) (sz := 2) Tryz.underlying41 cellsPair (by omega) (fun w B b o k => PairAt w b o k ∧ k.key.size ≤ maxLen ∧ k.text.size ≤ maxLen) (fun fuel cs x ht => by
        obtain ⟨xs, n, _, _, hl, hlen, hf⟩ := DataW.trod_struct Tryz.underlying163 ht
        match cs, hl.trans cellsPair with
        | [c0, c1], _ =>
          have h0 := hf 0 _ rfl
          have h1 := hf 1 _ rfl
          simp [cellsString'] at h0 h1
          rw [List.getElem?_eq_getElem (by simp at hlen; omega)] at h0 h1
          obtain ⟨k, e0, _, hs⟩ := DataW.trod_string Tryz.underlying9 h0
          obtain ⟨t, e1, _, hs1⟩ := DataW.trod_string Tryz.underlying9 h1
          simp at e0 e1
          exact ⟨⟨k, t⟩, rfl, fun b o hc => ⟨⟨by have := hc 0 (by omega); simpa [e0] using this, by have := hc 1 (by omega); simpa [e1] using this⟩, hs, hs1⟩⟩) h2
      simp at e0 e1 e2
      exact ⟨⟨loc, par, A2, n2, cap2, ps⟩, rfl, fun b o hc => ⟨⟨by have := hc 0 (by omega); simpa [e0] using this, by have := hc 1 (by omega); simpa [e1] using this, by have := hc 2 (by omega); simpa [e2] using this⟩, hs, hps⟩⟩) hv h
  exact ⟨A, n, cap, l, e, h4⟩
end
end Go.Proofs.YtbbbeldbhlehnaaGreatDoor
end
/-! Data in memory. -/
section
set_option linter.unusedVariables false
set_option linter.unusedSimpArgs false
namespace Gno
open Go Go.RowKit Go.Proofs.YtbbbeldbhlehnaaGreatDoor
def fmtMax : Nat := 4294967280
def Er.val (x : Er) : Value := .agg #[.int .i64 x.std, .int .i64 x.set, .int .i64 x.save, .string x.fmt, .int .i64 x.til]
def Dt.val (d : Dt) : Value := .agg #[.slice d.sA d.sn d.sc, .slice d.zA d.zn d.zc, .slice d.lA d.ln d.lc]
def ErAt (w : World) (b o : Nat) (x : Er) : Prop :=
  w.cell? ⟨b, o, none⟩ = some (.int .i64 x.std) ∧ w.cell? ⟨b, o + 1, none⟩ = some (.int .i64 x.set) ∧ w.cell? ⟨b, o + 2, none⟩ = some (.int .i64 x.save) ∧
  w.cell? ⟨b, o + 3, none⟩ = some (.string x.fmt) ∧ w.cell? ⟨b, o + 4, none⟩ = some (.int .i64 x.til)
def ErasAt : World → Nat → Option Addr → Nat → List Er → Prop := SlAt 5 (fun w B b o x => ErAt w b o x ∧ x.fmt.size ≤ fmtMax)
def ZnAt (w : World) (b o : Nat) (z : Zn) : Prop := w.cell? ⟨b, o, none⟩ = some (.string z.name) ∧ w.cell? ⟨b, o + 1, none⟩ = some (.slice z.A z.n z.cap)
def ZonesAt : World → Nat → Option Addr → Nat → List Zn → Prop := SlAt 2 (fun w B b o z => ZnAt w b o z ∧ z.name.size ≤ maxLen ∧ ErasAt w B z.A z.n z.es)
def StAt (w : World) (b o : Nat) (s : St) : Prop := w.cell? ⟨b, o, none⟩ = some (.string s.name) ∧ w.cell? ⟨b, o + 1, none⟩ = some (.slice s.A s.n s.cap)
def SetsAt : World → Nat → Option Addr → Nat → List St → Prop := SlAt 2 (fun w B b o s => StAt w b o s ∧ s.name.size ≤ maxLen ∧ RulesAt w B s.A s.n s.rs)
def LkAt (w : World) (b o : Nat) (l : Lk) : Prop := w.cell? ⟨b, o, none⟩ = some (.string l.name) ∧ w.cell? ⟨b, o + 1, none⟩ = some (.string l.to)
def LinksAt : World → Nat → Option Addr → Nat → List Lk → Prop := SlAt 2 (fun w B b o l => LkAt w b o l ∧ l.name.size ≤ maxLen ∧ l.to.size ≤ maxLen)
def DataAt (w : World) (B : Nat) (d : Dt) : Prop := SetsAt w B d.sA d.sn d.ss ∧ ZonesAt w B d.zA d.zn d.zs ∧ LinksAt w B d.lA d.ln d.ls ∧ d.ln ≤ fmtMax
theorem ErAt.below {w w' : World} {B b o : Nat} {x : Er} (h : ErAt w b o x) (hb : Below B w w') (hB : b < B) : ErAt w' b o x :=
  ⟨(hb.cell hB).trans h.1, (hb.cell hB).trans h.2.1, (hb.cell hB).trans h.2.2.1, (hb.cell hB).trans h.2.2.2.1, (hb.cell hB).trans h.2.2.2.2⟩
theorem ZnAt.below {w w' : World} {B b o : Nat} {x : Zn} (h : ZnAt w b o x) (hb : Below B w w') (hB : b < B) : ZnAt w' b o x := ⟨(hb.cell hB).trans h.1, (hb.cell hB).trans h.2⟩
theorem StAt.below {w w' : World} {B b o : Nat} {x : St} (h : StAt w b o x) (hb : Below B w w') (hB : b < B) : StAt w' b o x := ⟨(hb.cell hB).trans h.1, (hb.cell hB).trans h.2⟩
theorem LkAt.below {w w' : World} {B b o : Nat} {x : Lk} (h : LkAt w b o x) (hb : Below B w w') (hB : b < B) : LkAt w' b o x := ⟨(hb.cell hB).trans h.1, (hb.cell hB).trans h.2⟩
theorem keeps_er : Keeps (fun w B b o x => ErAt w b o x ∧ x.fmt.size ≤ fmtMax) := fun _ _ _ _ _ _ _ hb hB hbB h => ⟨h.1.below hb (by omega), h.2⟩
theorem keeps_zn : Keeps (fun w B b o z => ZnAt w b o z ∧ z.name.size ≤ maxLen ∧ ErasAt w B z.A z.n z.es) := fun _ _ _ _ _ _ _ hb hB hbB h =>
  ⟨h.1.below hb (by omega), h.2.1, SlAt.below keeps_er h.2.2 hb hB⟩
theorem keeps_st : Keeps (fun w B b o s => StAt w b o s ∧ s.name.size ≤ maxLen ∧ RulesAt w B s.A s.n s.rs) := fun _ _ _ _ _ _ _ hb hB hbB h =>
  ⟨h.1.below hb (by omega), h.2.1, (h.2.2.below hb hB).more hB⟩
theorem keeps_lk : Keeps (fun w B b o l => LkAt w b o l ∧ l.name.size ≤ maxLen ∧ l.to.size ≤ maxLen) := fun _ _ _ _ _ _ _ hb hB hbB h =>
  ⟨h.1.below hb (by omega), h.2.1, h.2.2⟩
theorem DataAt.below {w w' : World} {B B' : Nat} {d : Dt} (h : DataAt w B d) (hb : Below B' w w') (hB : B ≤ B') : DataAt w' B' d :=
  ⟨SlAt.below keeps_st h.1 hb hB, SlAt.below keeps_zn h.2.1 hb hB, SlAt.below keeps_lk h.2.2.1 hb hB, h.2.2.2⟩
/-- data as they lie at the call's beginning, seen in each later world. -/
theorem DataAt.next {w W : World} {d : Dt} (h : DataAt w w.heap.size d) (hb : Below w.heap.size w W) : DataAt W W.heap.size d :=
  (h.below hb (Nat.le_refl _)).below (B' := W.heap.size) (Below.refl _ _) hb.size
theorem _root_.Go.Proofs.YtbbbeldbhlehnaaGreatDoor.RulesAt.get {w : World} {B : Nat} {A : Option Addr} {n : Nat} {l : List Rl} (h : RulesAt w B A n l) {i : Nat} (hi : i < n) :
    ∃ b o q, A = some ⟨b, o, none⟩ ∧ b < B ∧ l[i]? = some q ∧ q.le.size ≤ maxLen ∧ ∀ W, Below B w W → RuleAt W b (o + i * 9) q := by
  obtain ⟨b, o, hA, hbB, hc⟩ := h.2.2 (by omega)
  have hl : i < l.length := by rw [h.1]; exact hi
  have h1 := hc i _ (List.getElem?_eq_getElem hl)
  exact ⟨b, o, l[i], hA, hbB, List.getElem?_eq_getElem hl, h1.2, fun W hW => h1.1.below hW hbB⟩
theorem zones_get {w : World} {B : Nat} {A : Option Addr} {n : Nat} {l : List Zn} (h : ZonesAt w B A n l) {i : Nat} (hi : i < n) :
    ∃ b o q, A = some ⟨b, o, none⟩ ∧ b < B ∧ l[i]? = some q ∧ q.name.size ≤ maxLen ∧ ∀ W, Below B w W → ZnAt W b (o + i * 2) q ∧ ErasAt W B q.A q.n q.es := by
  obtain ⟨b, o, q, h1, h2, h3, h4⟩ := SlAt.get keeps_zn h hi
  exact ⟨b, o, q, h1, h2, h3, (h4 w (Below.refl _ _)).2.1, fun W hW => ⟨(h4 W hW).1, (h4 W hW).2.2⟩⟩
theorem sets_get {w : World} {B : Nat} {A : Option Addr} {n : Nat} {l : List St} (h : SetsAt w B A n l) {i : Nat} (hi : i < n) :
    ∃ b o q, A = some ⟨b, o, none⟩ ∧ b < B ∧ l[i]? = some q ∧ q.name.size ≤ maxLen ∧ ∀ W, Below B w W → StAt W b (o + i * 2) q ∧ RulesAt W B q.A q.n q.rs := by
  obtain ⟨b, o, q, h1, h2, h3, h4⟩ := SlAt.get keeps_st h hi
  exact ⟨b, o, q, h1, h2, h3, (h4 w (Below.refl _ _)).2.1, fun W hW => ⟨(h4 W hW).1, (h4 W hW).2.2⟩⟩
theorem links_get {w : World} {B : Nat} {A : Option Addr} {n : Nat} {l : List Lk} (h : LinksAt w B A n l) {i : Nat} (hi : i < n) :
    ∃ b o q, A = some ⟨b, o, none⟩ ∧ b < B ∧ l[i]? = some q ∧ q.name.size ≤ maxLen ∧ q.to.size ≤ maxLen ∧ ∀ W, Below B w W → LkAt W b (o + i * 2) q := by
  obtain ⟨b, o, q, h1, h2, h3, h4⟩ := SlAt.get keeps_lk h hi
  exact ⟨b, o, q, h1, h2, h3, (h4 w (Below.refl _ _)).2.1, (h4 w (Below.refl _ _)).2.2, fun W hW => (h4 W hW).1⟩
theorem eras_get {w : World} {B : Nat} {A : Option Addr} {n : Nat} {l : List Er} (h : ErasAt w B A n l) {i : Nat} (hi : i < n) :
    ∃ b o q, A = some ⟨b, o, none⟩ ∧ b < B ∧ l[i]? = some q ∧ q.fmt.size ≤ fmtMax ∧ ∀ W, Below B w W → ErAt W b (o + i * 5) q := by
  obtain ⟨b, o, q, h1, h2, h3, h4⟩ := SlAt.get keeps_er h hi
  exact ⟨b, o, q, h1, h2, h3, (h4 w (Below.refl _ _)).2, fun W hW => (h4 W hW).1⟩
end Gno
end
/-! The walks of data.must and data.era. -/
section
set_option linter.unusedVariables false
set_option linter.unusedSimpArgs false
namespace Go.Proofs.YtbbbeldbhlehnaaGreatDoor
open Go.RowKit Gno
/-- what is thrown where something must not be. -/
def thrown (e : Int) : List PanicEntry := [{ v := .iface 171 (.agg #[.int .i64 e]), recovered := false }]
theorem must_yes (e : Int) (w : World) : Calls Tryz.prog 113 #[.bool true, .int .i64 e] w fun x w' => x = .returned (.tuple #[]) ∧ w = w' := by
  go_enter Tryz.func113, Tryz.ntmps113
  go_wp2
  go_end0
  exact ⟨rfl, rfl⟩
theorem must_no (e : Int) (w : World) : Calls Tryz.prog 113 #[.bool false, .int .i64 e] w fun x w' => x = .panicked (thrown e) ∧ w = w' := by
  go_enter Tryz.func113, Tryz.ntmps113
  go_wp2
  exact ⟨rfl, rfl, rfl⟩
set_option maxHeartbeats 4000000 in
theorem era_any (d : Dt) (x : Er) (ahead : Int) (w : World) (hn : d.sn ≤ maxLen) :
    Calls Tryz.prog 125 #[d.val, x.val, .int .i64 ahead] w fun e w' => e = .returned (.bool (eraOk d.sn x ahead)) ∧ Below w.heap.size w w' := by
  unfold Dt.val Er.val
  unfold maxLen at hn
  go_enter Tryz.func125, Tryz.ntmps125
  go_wp2
  all_goals go_ret
  all_goals exact ⟨ret_bool (by rw [Bool.eq_iff_iff]; simp [eraOk]; omega), ((Below.refl _ _).alloc (Nat.le_refl _) _).alloc (by simp) _⟩
end Go.Proofs.YtbbbeldbhlehnaaGreatDoor
end
/-! IndexFunc at zones and links; data.Lead; the reference's zoneAt, linkAt, follow. -/
section
set_option linter.unusedVariables false
set_option linter.unusedSimpArgs false
namespace Go.Proofs.YtbbbeldbhlehnaaGreatDoor
open Go.RowKit Gno

/-- the function that is handed in tells p of each Zn. -/
def PredZone (P : Program) (g : Nat) (lb : Array Value) (p : Zn → Bool) (l : List Zn) (w : World) : Prop :=
  ∀ (W : World) (x : Zn), x ∈ l → Below w.heap.size w W → Calls P g (#[.agg #[.string x.name, .slice x.A x.n x.cap]] ++ lb) W fun e w' => e = .returned (.bool (p x)) ∧ Below W.heap.size W w'
set_option maxRecDepth 100000 in
set_option maxHeartbeats 4000000 in
theorem indexZone_any (g : Nat) (lb : Array Value) (eg : ∀ args w, (callFunc g args).run Tryz.prog w = .ok (.enter g args) w) (p : Zn → Bool) (A : Option Addr) (n cap : Nat) (l : List Zn) (w : World)
    (hR : ZonesAt w w.heap.size A n l) (hp : PredZone Tryz.prog g lb p l w) :
    Calls Tryz.prog 68 #[.slice A n cap, .func (.func g) #[] lb] w fun e w' => e = .returned (.int .i64 (fst p l 0)) ∧ Below w.heap.size w w' := by
  have hn : n ≤ 9223372036854775807 := hR.2.1
  have HR := Lib.hid hR
  have HP := Lib.hid hp
  clear hR hp
  go_enter Tryz.func68, Tryz.ntmps68
  go_wp2
  go_loopw [8] (fun b0 wr => ∃ i : Nat, i ≤ n ∧ b0 = .int .i64 i ∧ Hid (fst p (l.drop i) i = fst p l 0) ∧ Below w.heap.size w wr) (fun b0 _ => n - (intOf b0).toNat)
  case atStart => exact ⟨0, Nat.zero_le _, rfl, Lib.hid (by simp), Below.refl _ _⟩
  case round =>
    obtain ⟨i, hi, rfl, hfd, hb⟩ := hrel
    by_cases hlt : i < n
    · obtain ⟨b, o, q, hA, hbB, hq, hqs, hqq⟩ := zones_get HR.out hlt
      subst hA
      obtain ⟨⟨e0, e1⟩, hqe⟩ := hqq _ hb
      have hmem : q ∈ l := List.mem_of_getElem? hq
      have FD := Lib.hid (fst_drop (p := p) hq)
      have c := HP.out wr q hmem hb
      clear hq hqq hmem
      cases hpk : p q
      · rw [hpk] at c
        have C := Lib.hid c
        have HX := Lib.hid ((FD.out.2 hpk).symm.trans hfd.out)
        clear c hfd hpk
        go_wp2_with (go_at_fn g; (with_reducible refine C.out.mono ?_); rintro e w4 ⟨rfl, hb4⟩; have hb5 := hb.trans (hb4.mono hb.size); clear hb4)
        go_roundw
        case rel => exact ⟨i + 1, by omega, by go_num, HX, hb5⟩
        case measure => simp [intOf]; omega
      · rw [hpk] at c
        have C := Lib.hid c
        have HX := Lib.hid ((FD.out.1 hpk).symm.trans hfd.out)
        clear c hfd hpk
        go_wp2_with (go_at_fn g; (with_reducible refine C.out.mono ?_); rintro e w4 ⟨rfl, hb4⟩; have hb5 := hb.trans (hb4.mono hb.size); clear hb4)
        go_ret
        exact ⟨ret_int HX.out, hb5⟩
    · have HX := Lib.hid ((fst_end (p := p) (by have := HR.out.1; omega)).symm.trans hfd.out)
      go_wp2
      go_ret
      exact ⟨ret_int HX.out, hb⟩

/-- the function that is handed in tells p of each Lk. -/
def PredLink (P : Program) (g : Nat) (lb : Array Value) (p : Lk → Bool) (l : List Lk) (w : World) : Prop :=
  ∀ (W : World) (x : Lk), x ∈ l → Below w.heap.size w W → Calls P g (#[.agg #[.string x.name, .string x.to]] ++ lb) W fun e w' => e = .returned (.bool (p x)) ∧ Below W.heap.size W w'
set_option maxRecDepth 100000 in
set_option maxHeartbeats 4000000 in
theorem indexLink_any (g : Nat) (lb : Array Value) (eg : ∀ args w, (callFunc g args).run Tryz.prog w = .ok (.enter g args) w) (p : Lk → Bool) (A : Option Addr) (n cap : Nat) (l : List Lk) (w : World)
    (hR : LinksAt w w.heap.size A n l) (hp : PredLink Tryz.prog g lb p l w) :
    Calls Tryz.prog 70 #[.slice A n cap, .func (.func g) #[] lb] w fun e w' => e = .returned (.int .i64 (fst p l 0)) ∧ Below w.heap.size w w' := by
  have hn : n ≤ 9223372036854775807 := hR.2.1
  have HR := Lib.hid hR
  have HP := Lib.hid hp
  clear hR hp
  go_enter Tryz.func70, Tryz.ntmps70
  go_wp2
  go_loopw [8] (fun b0 wr => ∃ i : Nat, i ≤ n ∧ b0 = .int .i64 i ∧ Hid (fst p (l.drop i) i = fst p l 0) ∧ Below w.heap.size w wr) (fun b0 _ => n - (intOf b0).toNat)
  case atStart => exact ⟨0, Nat.zero_le _, rfl, Lib.hid (by simp), Below.refl _ _⟩
  case round =>
    obtain ⟨i, hi, rfl, hfd, hb⟩ := hrel
    by_cases hlt : i < n
    · obtain ⟨b, o, q, hA, hbB, hq, hqs, hqs2, hqq⟩ := links_get HR.out hlt
      subst hA
      obtain ⟨e0, e1⟩ := hqq _ hb
      have hmem : q ∈ l := List.mem_of_getElem? hq
      have FD := Lib.hid (fst_drop (p := p) hq)
      have c := HP.out wr q hmem hb
      clear hq hqq hmem
      cases hpk : p q
      · rw [hpk] at c
        have C := Lib.hid c
        have HX := Lib.hid ((FD.out.2 hpk).symm.trans hfd.out)
        clear c hfd hpk
        go_wp2_with (go_at_fn g; (with_reducible refine C.out.mono ?_); rintro e w4 ⟨rfl, hb4⟩; have hb5 := hb.trans (hb4.mono hb.size); clear hb4)
        go_roundw
        case rel => exact ⟨i + 1, by omega, by go_num, HX, hb5⟩
        case measure => simp [intOf]; omega
      · rw [hpk] at c
        have C := Lib.hid c
        have HX := Lib.hid ((FD.out.1 hpk).symm.trans hfd.out)
        clear c hfd hpk
        go_wp2_with (go_at_fn g; (with_reducible refine C.out.mono ?_); rintro e w4 ⟨rfl, hb4⟩; have hb5 := hb.trans (hb4.mono hb.size); clear hb4)
        go_ret
        exact ⟨ret_int HX.out, hb5⟩
    · have HX := Lib.hid ((fst_end (p := p) (by have := HR.out.1; omega)).symm.trans hfd.out)
      go_wp2
      go_ret
      exact ⟨ret_int HX.out, hb⟩
end Go.Proofs.YtbbbeldbhlehnaaGreatDoor
end
/-! data.Lead; the reference's zoneAt, linkAt, follow. -/
section
set_option linter.unusedVariables false
set_option linter.unusedSimpArgs false
namespace Gno
open Go
theorem lead_zone {d : Dt} {f : Nat} {nm : ByteArray} (h : 0 ≤ zoneN d nm) : leadT d (f + 1) nm = zoneN d nm := by
  unfold leadT; rw [if_pos h]
theorem lead_none {d : Dt} {f : Nat} {nm : ByteArray} (h : ¬ 0 ≤ zoneN d nm) (h2 : linkN d nm < 0) : leadT d (f + 1) nm = -1 := by
  unfold leadT; rw [if_neg h]
  cases d.ls[(linkN d nm).toNat]? with
  | none => rfl
  | some l => simp only; rw [if_pos h2]
theorem lead_link {d : Dt} {f : Nat} {nm : ByteArray} {l : Lk} (h : ¬ 0 ≤ zoneN d nm) (h2 : ¬ linkN d nm < 0) (hl : d.ls[(linkN d nm).toNat]? = some l) : leadT d (f + 1) nm = leadT d f l.to := by
  rw [leadT, if_neg h, hl]
  simp only
  rw [if_neg h2]
theorem linkN_range (d : Dt) (nm : ByteArray) : -1 ≤ linkN d nm ∧ linkN d nm < d.ls.length := by
  unfold linkN
  rcases fst_range (isLink nm) d.ls 0 (by omega) with e | e <;> omega
theorem zoneN_range (d : Dt) (nm : ByteArray) : -1 ≤ zoneN d nm ∧ zoneN d nm < d.zs.length := by
  unfold zoneN
  rcases fst_range (isZone nm) d.zs 0 (by omega) with e | e <;> omega
theorem leadT_range (d : Dt) : ∀ (f : Nat) (nm : ByteArray), -1 ≤ leadT d f nm ∧ leadT d f nm < d.zs.length
  | 0, nm => ⟨by simp [leadT], by simp [leadT]; omega⟩
  | f + 1, nm => by
    have hz := zoneN_range d nm
    unfold leadT
    split
    · exact hz
    · cases d.ls[(linkN d nm).toNat]? with
      | none => exact ⟨by simp, by simp; omega⟩
      | some l =>
        simp only
        split
        · exact ⟨by simp, by omega⟩
        · exact leadT_range d f l.to
end Gno
namespace Go.Proofs.YtbbbeldbhlehnaaGreatDoor
open Go.RowKit Gno
abbrev Dobj (d : Dt) : Obj := .cells #[.slice d.sA d.sn d.sc, .slice d.zA d.zn d.zc, .slice d.lA d.ln d.lc] 26
theorem leadZ_any (o : Nat) (nm : ByteArray) (x : Zn) (w : World) (hc : w.cell? ⟨o, 0, none⟩ = some (.string nm)) (ho : o < w.heap.size) :
    Calls Tryz.prog 69 #[.agg #[.string x.name, .slice x.A x.n x.cap], .pointer (some ⟨o, 0, none⟩)] w fun e w' => e = .returned (.bool (isZone nm x)) ∧ Below w.heap.size w w' := by
  have hc2 : (w.alloc (.cells #[.string x.name, .slice x.A x.n x.cap] 54)).cell? ⟨o, 0, none⟩ = some (.string nm) := (((Below.refl _ _).alloc (Nat.le_refl _) _).cell ho).trans hc
  go_enter Tryz.func69, Tryz.ntmps69
  go_wp2
  go_ret
  exact ⟨ret_bool rfl, (Below.refl _ _).alloc (Nat.le_refl _) _⟩
theorem leadL_any (o : Nat) (nm : ByteArray) (x : Lk) (w : World) (hc : w.cell? ⟨o, 0, none⟩ = some (.string nm)) (ho : o < w.heap.size) :
    Calls Tryz.prog 71 #[.agg #[.string x.name, .string x.to], .pointer (some ⟨o, 0, none⟩)] w fun e w' => e = .returned (.bool (isLink nm x)) ∧ Below w.heap.size w w' := by
  have hc2 : (w.alloc (.cells #[.string x.name, .string x.to] 127)).cell? ⟨o, 0, none⟩ = some (.string nm) := (((Below.refl _ _).alloc (Nat.le_refl _) _).cell ho).trans hc
  go_enter Tryz.func71, Tryz.ntmps71
  go_wp2
  go_ret
  exact ⟨ret_bool rfl, (Below.refl _ _).alloc (Nat.le_refl _) _⟩
set_option maxRecDepth 100000 in
set_option maxHeartbeats 4000000 in
theorem lead_any (d : Dt) (nm : ByteArray) (w : World) (hD : DataAt w w.heap.size d) :
    Calls Tryz.prog 35 #[d.val, .string nm] w fun e w' => e = .returned (.int .i64 (leadN d nm)) ∧ Below w.heap.size w w' := by
  have hmf : ∀ (fn : Fn) (first cap : Array Value) (w : World), (Instr.makeFunc fn first cap).run Tryz.prog w = .ok (.func fn first cap) w := fun _ _ _ _ => rfl
  have hln : d.ln ≤ 4294967280 := hD.2.2.2
  have HL : Hid (d.ls.length = d.ln) := Lib.hid hD.2.2.1.1
  have HD := Lib.hid hD
  have HV : Hid (leadT d (d.ln + 1 - 0) nm = leadN d nm) := Lib.hid (by unfold leadN; rw [HL.out]; rfl)
  clear hD
  unfold Dt.val
  go_enter Tryz.func35, Tryz.ntmps35
  go_wp2
  go_loopw [11] (fun b11 wr => ∃ (i : Nat) (v : ByteArray), i ≤ d.ln + 1 ∧ b11 = .int .i64 i ∧ wr.cell? ⟨w.heap.size + 1, 0, none⟩ = some (.string v) ∧ wr.frozen? ⟨w.heap.size + 1, 0, none⟩ = false ∧ Hid (leadT d (d.ln + 1 - i) v = leadN d nm) ∧
    wr.cell? ⟨w.heap.size, 1, none⟩ = some (.slice d.zA d.zn d.zc) ∧ wr.cell? ⟨w.heap.size, 2, none⟩ = some (.slice d.lA d.ln d.lc) ∧ Below w.heap.size w wr ∧ w.heap.size + 2 ≤ wr.heap.size) (fun b11 _ => d.ln + 1 - (intOf b11).toNat)
  case atStart =>
    refine ⟨0, nm, Nat.zero_le _, rfl, ?_, ?_, HV, ?_, ?_, ((Below.refl _ _).alloc (Nat.le_refl _) _).alloc (by simp) _, by simp⟩
    · rw [World.cell?_alloc_at _ _ _ _ (by simp)]; rfl
    · exact World.frozen?_alloc_at _ _ _ _ (by simp)
    · rw [World.cell?_alloc_past _ _ _ (by simp), World.cell?_alloc_at _ _ _ _ rfl]; rfl
    · rw [World.cell?_alloc_past _ _ _ (by simp), World.cell?_alloc_at _ _ _ _ rfl]; rfl
  case round =>
    clear HV
    obtain ⟨i, v, hi, rfl, c0, f0, hfd, z1, z2, hb, hz⟩ := hrel
    by_cases hlt : i < d.ln + 1
    · have hf : d.ln + 1 - i = (d.ln - i) + 1 := by omega
      rw [hf] at hfd
      have IZ := Lib.hid (indexZone_any 69 #[.pointer (some ⟨w.heap.size + 1, 0, none⟩)] (enters_of Tryz.func69 (by kernel_rfl) rfl) (isZone v) d.zA d.zn d.zc d.zs wr ((HD.out.next hb).2.1)
        (fun W x hx hW => leadZ_any (w.heap.size + 1) v x W ((hW.cell (by show w.heap.size + 1 < wr.heap.size; omega)).trans c0) (by have := hW.size; omega)))
      by_cases hzn : 0 ≤ zoneN d v
      · have HX := Lib.hid ((lead_zone (f := d.ln - i) hzn).symm.trans hfd.out)
        have hzb : decide (0 ≤ zoneN d v) = true := by simpa using hzn
        have IZ2 : Hid (Calls Tryz.prog 68 #[.slice d.zA d.zn d.zc, .func (.func 69) #[] #[.pointer (some ⟨w.heap.size + 1, 0, none⟩)]] wr fun e w' => e = .returned (.int .i64 (zoneN d v)) ∧ Below wr.heap.size wr w') := IZ
        clear IZ hfd hf hzn
        go_wp2_with (go_at_call 68; (with_reducible refine IZ2.out.mono ?_); rintro e w4 ⟨rfl, hb4⟩)
        go_ret
        exact ⟨ret_int HX.out, hb.trans (hb4.mono hb.size)⟩
      · have hzb : decide (0 ≤ zoneN d v) = false := by simpa using hzn
        have IZ2 : Hid (Calls Tryz.prog 68 #[.slice d.zA d.zn d.zc, .func (.func 69) #[] #[.pointer (some ⟨w.heap.size + 1, 0, none⟩)]] wr fun e w' => e = .returned (.int .i64 (zoneN d v)) ∧ Below wr.heap.size wr w') := IZ
        have IL : Hid (∀ w4, Below wr.heap.size wr w4 → Calls Tryz.prog 70 #[.slice d.lA d.ln d.lc, .func (.func 71) #[] #[.pointer (some ⟨w.heap.size + 1, 0, none⟩)]] w4 fun e w' => e = .returned (.int .i64 (linkN d v)) ∧ Below w4.heap.size w4 w') := Lib.hid (fun w4 h4 =>
          indexLink_any 71 #[.pointer (some ⟨w.heap.size + 1, 0, none⟩)] (enters_of Tryz.func71 (by kernel_rfl) rfl) (isLink v) d.lA d.ln d.lc d.ls w4 ((HD.out.next (hb.trans (h4.mono hb.size))).2.2.1)
            (fun W x hx hW => leadL_any (w.heap.size + 1) v x W ((hW.cell (by show w.heap.size + 1 < w4.heap.size; have := h4.size; omega)).trans ((h4.cell (by show w.heap.size + 1 < wr.heap.size; omega)).trans c0)) (by have := hW.size; have := h4.size; omega)))
        have hlr := linkN_range d v
        rw [HL.out] at hlr
        obtain ⟨hl1, hl2⟩ := hlr
        have HK : Hid (∀ w4, Below wr.heap.size wr w4 → w4.cell? ⟨w.heap.size, 1, none⟩ = some (.slice d.zA d.zn d.zc) ∧ w4.cell? ⟨w.heap.size, 2, none⟩ = some (.slice d.lA d.ln d.lc) ∧ w4.cell? ⟨w.heap.size + 1, 0, none⟩ = some (.string v) ∧ w4.frozen? ⟨w.heap.size + 1, 0, none⟩ = false) := Lib.hid (fun w4 h4 =>
          ⟨(h4.cell (by show w.heap.size < _; omega)).trans z1, (h4.cell (by show w.heap.size < _; omega)).trans z2, (h4.cell (by show w.heap.size + 1 < _; omega)).trans c0, (h4.frozen (by show w.heap.size + 1 < _; omega)).trans f0⟩)
        by_cases hll : linkN d v < 0
        · have HX := Lib.hid ((lead_none (f := d.ln - i) hzn hll).symm.trans hfd.out)
          have hlb : decide (linkN d v < 0) = true := by simpa using hll
          clear IZ hfd hf hzn
          go_wp2_with (first
            | (go_at_call 68; (with_reducible refine IZ2.out.mono ?_); rintro e w4 ⟨rfl, hb4⟩; obtain ⟨k1, k2, k3, k4⟩ := HK.out _ hb4)
            | (go_at_call 70; (with_reducible refine (IL.out _ hb4).mono ?_); rintro e w5 ⟨rfl, hb5⟩; have hb6 := hb4.trans (hb5.mono hb4.size); clear hb4 hb5))
          go_ret
          exact ⟨ret_int HX.out, hb.trans (hb6.mono hb.size)⟩
        · obtain ⟨b, o, q, hA, hbB, hq, hqs, hqs2, hqq⟩ := links_get HD.out.2.2.1 (i := (linkN d v).toNat) (by omega)
          have HX := Lib.hid ((lead_link (f := d.ln - i) hzn hll hq).symm.trans hfd.out)
          have hlb : decide (linkN d v < 0) = false := by simpa using hll
          have HQ := Lib.hid hqq
          have HK2 : Hid (∀ w5, Below wr.heap.size wr w5 → w5.cell? ⟨b, o + (linkN d v).toNat * 2, none⟩ = some (.string q.name) ∧ w5.cell? ⟨b, o + (linkN d v).toNat * 2 + 1, none⟩ = some (.string q.to)) := Lib.hid (fun w5 h5 => HQ.out _ (hb.trans (h5.mono hb.size)))
          rw [hA] at HK IL
          have HA2 := Lib.hid hA
          clear IZ hfd hf hzn hq hqq hA
          go_wp2_with (first
            | (go_at_call 68; (with_reducible refine IZ2.out.mono ?_); rintro e w4 ⟨rfl, hb4⟩; obtain ⟨k1, k2, k3, k4⟩ := HK.out _ hb4)
            | (go_at_call 70; (with_reducible refine (IL.out _ hb4).mono ?_); rintro e w5 ⟨rfl, hb5⟩; have hb6 := hb4.trans (hb5.mono hb4.size); clear hb4 hb5 k1 k2 k3 k4; obtain ⟨k1, k2, k3, k4⟩ := HK.out _ hb6; obtain ⟨m0, m1⟩ := HK2.out _ hb6))
          have hb7 : Below w.heap.size w w5 := hb.trans (hb6.mono hb.size)
          have hz7 := hb6.size
          go_roundw
          case rel =>
            refine ⟨i + 1, q.to, by omega, by go_num, World.cell?_setCell_same _ _ _ k3, by rw [World.frozen?_setCell]; exact k4, ?_, ?_, ?_, hb7.setCell (by simp) _, by simp; omega⟩
            · exact Lib.hid (by have := HX.out; rw [show d.ln + 1 - (i + 1) = d.ln - i by omega]; exact this)
            · rw [World.cell?_setCell_far _ _ _ _ (by simp)]; exact k1
            · rw [World.cell?_setCell_far _ _ _ _ (by simp), HA2.out]; exact k2
          case measure => simp [intOf]; omega
    · have HX : Hid (leadN d nm = -1) := Lib.hid (by
        have := hfd.out
        rw [show d.ln + 1 - i = 0 by omega] at this
        exact this.symm)
      go_wp2
      go_ret
      exact ⟨ret_int HX.out.symm, hb⟩
end Go.Proofs.YtbbbeldbhlehnaaGreatDoor
end
/-! gnomonref.zoneAt, linkAt, follow, eraFine. -/
section
set_option linter.unusedVariables false
set_option linter.unusedSimpArgs false
namespace Go.Proofs.YtbbbeldbhlehnaaGreatDoor
open Go.RowKit Gno
set_option maxRecDepth 100000 in
set_option maxHeartbeats 4000000 in
theorem zoneN_any (d : Dt) (s : ByteArray) (w : World) (hD : DataAt w w.heap.size d) :
    Calls Tryz.prog 74 #[d.val, .string s] w fun e w' => e = .returned (.int .i64 (zoneN d s)) ∧ Below w.heap.size w w' := by
  have HD := Lib.hid (hD.2.1)
  have hn : d.zn ≤ 9223372036854775807 := HD.out.2.1
  have HLE := Lib.hid HD.out.1
  have hb0 : Below w.heap.size w (w.alloc (Dobj d)) := (Below.refl _ _).alloc (Nat.le_refl _) _
  have HB0 := Lib.hid hb0
  clear hD hb0
  unfold Dt.val
  go_enter Tryz.func74, Tryz.ntmps74
  go_wp2
  go_loopw [5] (fun b wr => ∃ i : Nat, i ≤ d.zn ∧ b = .int .i64 i ∧ Hid (fst (isZone s) (d.zs.drop i) i = zoneN d s) ∧ wr.cell? ⟨w.heap.size, 1, none⟩ = some (.slice d.zA d.zn d.zc) ∧ Below w.heap.size w wr) (fun b _ => d.zn - (intOf b).toNat)
  case atStart => exact ⟨0, Nat.zero_le _, rfl, Lib.hid (by rw [List.drop_zero]; rfl), by simp, HB0.out⟩
  case round =>
    obtain ⟨i, hi, rfl, hfi, hc, hb⟩ := hrel
    by_cases hit : i < d.zn
    · obtain ⟨b, o, q, hA, hbB, hq, hqs, hqq⟩ := zones_get HD.out hit
      have FD := Lib.hid (fst_drop (p := isZone s) hq)
      obtain ⟨⟨e0, e1⟩, _⟩ := hqq _ hb
      rw [hA] at hc
      have HA := Lib.hid hA
      clear hq hqq hA
      cases h1 : isZone s q
      · have HX := Lib.hid ((FD.out.2 h1).symm.trans hfi.out)
        have g1 : (q.name.toList == s.toList) = false := h1
        clear h1 hfi FD
        go_wp2
        go_roundw
        case rel => exact ⟨i + 1, by omega, by go_num, HX, by rw [HA.out]; exact hc, hb⟩
        case measure => simp [intOf]; omega
      · have HX := Lib.hid ((FD.out.1 h1).symm.trans hfi.out)
        have g1 : (q.name.toList == s.toList) = true := h1
        clear h1 hfi FD
        go_wp2
        go_ret
        exact ⟨ret_int HX.out, hb⟩
    · have HX : Hid (zoneN d s = -1) := Lib.hid (by rw [← hfi.out]; exact fst_end (by rw [HLE.out]; exact hit))
      clear hfi
      go_wp2
      go_ret
      exact ⟨ret_int HX.out.symm, hb⟩
set_option maxRecDepth 100000 in
set_option maxHeartbeats 4000000 in
theorem linkN_any (d : Dt) (s : ByteArray) (w : World) (hD : DataAt w w.heap.size d) :
    Calls Tryz.prog 75 #[d.val, .string s] w fun e w' => e = .returned (.int .i64 (linkN d s)) ∧ Below w.heap.size w w' := by
  have HD := Lib.hid (hD.2.2.1)
  have hn : d.ln ≤ 9223372036854775807 := HD.out.2.1
  have HLE := Lib.hid HD.out.1
  have hb0 : Below w.heap.size w (w.alloc (Dobj d)) := (Below.refl _ _).alloc (Nat.le_refl _) _
  have HB0 := Lib.hid hb0
  clear hD hb0
  unfold Dt.val
  go_enter Tryz.func75, Tryz.ntmps75
  go_wp2
  go_loopw [5] (fun b wr => ∃ i : Nat, i ≤ d.ln ∧ b = .int .i64 i ∧ Hid (fst (isLink s) (d.ls.drop i) i = linkN d s) ∧ wr.cell? ⟨w.heap.size, 2, none⟩ = some (.slice d.lA d.ln d.lc) ∧ Below w.heap.size w wr) (fun b _ => d.ln - (intOf b).toNat)
  case atStart => exact ⟨0, Nat.zero_le _, rfl, Lib.hid (by rw [List.drop_zero]; rfl), by simp, HB0.out⟩
  case round =>
    obtain ⟨i, hi, rfl, hfi, hc, hb⟩ := hrel
    by_cases hit : i < d.ln
    · obtain ⟨b, o, q, hA, hbB, hq, hqs, _, hqq⟩ := links_get HD.out hit
      have FD := Lib.hid (fst_drop (p := isLink s) hq)
      obtain ⟨e0, e1⟩ := hqq _ hb
      rw [hA] at hc
      have HA := Lib.hid hA
      clear hq hqq hA
      cases h1 : isLink s q
      · have HX := Lib.hid ((FD.out.2 h1).symm.trans hfi.out)
        have g1 : (q.name.toList == s.toList) = false := h1
        clear h1 hfi FD
        go_wp2
        go_roundw
        case rel => exact ⟨i + 1, by omega, by go_num, HX, by rw [HA.out]; exact hc, hb⟩
        case measure => simp [intOf]; omega
      · have HX := Lib.hid ((FD.out.1 h1).symm.trans hfi.out)
        have g1 : (q.name.toList == s.toList) = true := h1
        clear h1 hfi FD
        go_wp2
        go_ret
        exact ⟨ret_int HX.out, hb⟩
    · have HX : Hid (linkN d s = -1) := Lib.hid (by rw [← hfi.out]; exact fst_end (by rw [HLE.out]; exact hit))
      clear hfi
      go_wp2
      go_ret
      exact ⟨ret_int HX.out.symm, hb⟩
set_option maxRecDepth 100000 in
set_option maxHeartbeats 4000000 in
theorem follow_any (d : Dt) (nm : ByteArray) (w : World) (hD : DataAt w w.heap.size d) :
    Calls Tryz.prog 39 #[d.val, .string nm] w fun e w' => e = .returned (.int .i64 (leadN d nm)) ∧ Below w.heap.size w w' := by
  have hln : d.ln ≤ 4294967280 := hD.2.2.2
  have HL : Hid (d.ls.length = d.ln) := Lib.hid hD.2.2.1.1
  have HD := Lib.hid hD
  have HV : Hid (leadT d (d.ln + 1 - 0) nm = leadN d nm) := Lib.hid (by unfold leadN; rw [HL.out]; rfl)
  have CZ : Hid (∀ s W, Below w.heap.size w W → Calls Tryz.prog 74 #[.agg #[.slice d.sA d.sn d.sc, .slice d.zA d.zn d.zc, .slice d.lA d.ln d.lc], .string s] W fun e w' => e = .returned (.int .i64 (zoneN d s)) ∧ Below W.heap.size W w') := Lib.hid (fun s W hb => zoneN_any d s W (hD.next hb))
  have CL : Hid (∀ s W, Below w.heap.size w W → Calls Tryz.prog 75 #[.agg #[.slice d.sA d.sn d.sc, .slice d.zA d.zn d.zc, .slice d.lA d.ln d.lc], .string s] W fun e w' => e = .returned (.int .i64 (linkN d s)) ∧ Below W.heap.size W w') := Lib.hid (fun s W hb => linkN_any d s W (hD.next hb))
  have HB0 : Hid (Below w.heap.size w (w.alloc (Dobj d))) := Lib.hid ((Below.refl _ _).alloc (Nat.le_refl _) _)
  clear hD
  unfold Dt.val
  go_enter Tryz.func39, Tryz.ntmps39
  go_wp2
  go_loopw [1, 5] (fun b1 b5 wr => ∃ (i : Nat) (v : ByteArray), i ≤ d.ln + 1 ∧ b5 = .int .i64 i ∧ b1 = .string v ∧ Hid (leadT d (d.ln + 1 - i) v = leadN d nm) ∧
    Hid (Below (w.heap.size + 1) (w.alloc (Dobj d)) wr) ∧ Below w.heap.size w wr) (fun _ b5 _ => d.ln + 1 - (intOf b5).toNat)
  case atStart => exact ⟨0, nm, Nat.zero_le _, rfl, rfl, HV, Lib.hid (Below.refl _ _), HB0.out⟩
  case round =>
    clear HV
    obtain ⟨i, v, hi, rfl, rfl, hfd, hbx, hb⟩ := hrel
    have HC : Hid (∀ w4, Below wr.heap.size wr w4 → w4.cell? ⟨w.heap.size, 0, none⟩ = some (.slice d.sA d.sn d.sc) ∧ w4.cell? ⟨w.heap.size, 1, none⟩ = some (.slice d.zA d.zn d.zc) ∧ w4.cell? ⟨w.heap.size, 2, none⟩ = some (.slice d.lA d.ln d.lc)) := Lib.hid (fun w4 h4 => by
      have hz := hbx.out.size
      simp at hz
      have h5 := hbx.out.trans (h4.mono (by omega))
      exact ⟨(h5.cell (by simp)).trans (by simp), (h5.cell (by simp)).trans (by simp), (h5.cell (by simp)).trans (by simp)⟩)
    have HBX : Hid (∀ w4, Below wr.heap.size wr w4 → Below (w.heap.size + 1) (w.alloc (Dobj d)) w4) := Lib.hid (fun w4 h4 => hbx.out.trans (h4.mono (by have hz := hbx.out.size; simp at hz; omega)))
    obtain ⟨k0, k1, k2⟩ := HC.out _ (Below.refl _ _)
    by_cases hlt : i < d.ln + 1
    · have hf : d.ln + 1 - i = (d.ln - i) + 1 := by omega
      rw [hf] at hfd
      have IZ := Lib.hid (CZ.out v wr hb)
      have gle : decide ((i : Int) ≤ (d.ln : Int)) = true := by simp; omega
      by_cases hzn : 0 ≤ zoneN d v
      · have HX := Lib.hid ((lead_zone (f := d.ln - i) hzn).symm.trans hfd.out)
        have hzb : decide (0 ≤ zoneN d v) = true := by simpa using hzn
        clear hfd hf hzn hbx
        go_wp2_with (go_at_call 74; (with_reducible refine IZ.out.mono ?_); rintro e w4 ⟨rfl, hb4⟩)
        go_ret
        exact ⟨ret_int HX.out, hb.trans (hb4.mono hb.size)⟩
      · have hzb : decide (0 ≤ zoneN d v) = false := by simpa using hzn
        have hlr := linkN_range d v
        rw [HL.out] at hlr
        obtain ⟨hl1, hl2⟩ := hlr
        by_cases hll : linkN d v < 0
        · have HX := Lib.hid ((lead_none (f := d.ln - i) hzn hll).symm.trans hfd.out)
          have hlb : decide (linkN d v < 0) = true := by simpa using hll
          clear hfd hf hzn hbx
          go_wp2_with (first
            | (go_at_call 74; (with_reducible refine IZ.out.mono ?_); rintro e w4 ⟨rfl, hb4⟩; have hb5 := hb.trans (hb4.mono hb.size); clear k0 k1 k2; obtain ⟨k0, k1, k2⟩ := HC.out _ hb4)
            | (go_at_call 75; (with_reducible refine (CL.out _ _ hb5).mono ?_); rintro e w5 ⟨rfl, hb6⟩))
          go_ret
          exact ⟨ret_int HX.out, hb5.trans (hb6.mono hb5.size)⟩
        · obtain ⟨b, o, q, hA, hbB, hq, hqs, hqs2, hqq⟩ := links_get HD.out.2.2.1 (i := (linkN d v).toNat) (by omega)
          have HX := Lib.hid ((lead_link (f := d.ln - i) hzn hll hq).symm.trans hfd.out)
          have hlb : decide (linkN d v < 0) = false := by simpa using hll
          have HQ := Lib.hid hqq
          rw [hA] at HC IZ CL k2
          have HA2 := Lib.hid hA
          clear hfd hf hzn hq hqq hA hbx
          go_wp2_with (first
            | (go_at_call 74; (with_reducible refine IZ.out.mono ?_); rintro e w4 ⟨rfl, hb4⟩; have hb5 := hb.trans (hb4.mono hb.size); clear k0 k1 k2; obtain ⟨k0, k1, k2⟩ := HC.out _ hb4)
            | (go_at_call 75; (with_reducible refine (CL.out _ _ hb5).mono ?_); rintro e w5 ⟨rfl, hb6⟩; have hb7 := hb4.trans (hb6.mono hb4.size); have hb8 := hb5.trans (hb6.mono hb5.size); clear k0 k1 k2; obtain ⟨k0, k1, k2⟩ := HC.out _ hb7; obtain ⟨m0, m1⟩ := HQ.out _ hb8))
          go_roundw
          case rel => exact ⟨i + 1, q.to, by omega, by go_num, rfl, Lib.hid (by have := HX.out; rw [show d.ln + 1 - (i + 1) = d.ln - i by omega]; exact this), Lib.hid (HBX.out _ hb7), hb8⟩
          case measure => simp [intOf]; omega
    · have HX : Hid (leadN d nm = -1) := Lib.hid (by
        have := hfd.out
        rw [show d.ln + 1 - i = 0 by omega] at this
        exact this.symm)
      have gle : decide ((i : Int) ≤ (d.ln : Int)) = false := by simp; omega
      clear hfd hbx
      go_wp2
      go_ret
      exact ⟨ret_int HX.out.symm, hb⟩
end Go.Proofs.YtbbbeldbhlehnaaGreatDoor
end
/-! gnomonref.eraFine. -/
section
set_option linter.unusedVariables false
set_option linter.unusedSimpArgs false
namespace Go.Proofs.YtbbbeldbhlehnaaGreatDoor
open Go.RowKit Gno
theorem eraOk_iff (ns : Int) (x : Er) (ahead : Int) : eraOk ns x ahead = true ↔ (-50400 ≤ x.std ∧ x.std ≤ 50400) ∧ (-1 ≤ x.set ∧ x.set < ns) ∧ (0 ≤ x.save ∧ x.save ≤ 7200) ∧ (x.set < 0 ∨ x.save = 0) ∧ ahead < x.til := by
  unfold eraOk; simp only [Bool.and_eq_true, decide_eq_true_eq]
theorem eraOk_no {ns : Int} {x : Er} {ahead : Int} (h : ¬ ((-50400 ≤ x.std ∧ x.std ≤ 50400) ∧ (-1 ≤ x.set ∧ x.set < ns) ∧ (0 ≤ x.save ∧ x.save ≤ 7200) ∧ (x.set < 0 ∨ x.save = 0) ∧ ahead < x.til)) : false = eraOk ns x ahead := by
  cases h1 : eraOk ns x ahead
  · rfl
  · exact absurd ((eraOk_iff _ _ _).1 h1) h
set_option maxRecDepth 100000 in
set_option maxHeartbeats 4000000 in
theorem eraFine_any (d : Dt) (x : Er) (ahead : Int) (w : World) (hn : d.sn ≤ maxLen) :
    Calls Tryz.prog 170 #[d.val, x.val, .int .i64 ahead] w fun e w' => e = .returned (.bool (eraOk d.sn x ahead)) ∧ Below w.heap.size w w' := by
  unfold Dt.val Er.val
  unfold maxLen at hn
  have HB : Hid (Below w.heap.size w ((w.alloc (.cells #[.slice d.sA d.sn d.sc, .slice d.zA d.zn d.zc, .slice d.lA d.ln d.lc] 26)).alloc (.cells #[.int .i64 x.std, .int .i64 x.set, .int .i64 x.save, .string x.fmt, .int .i64 x.til] 125))) :=
    Lib.hid (((Below.refl _ _).alloc (Nat.le_refl _) _).alloc (by simp) _)
  cases h1 : stdOk x.std
  · have g1 := (isStd_any x.std); rw [h1] at g1
    have G1 := Lib.hid g1
    have HX := Lib.hid (eraOk_no (ns := d.sn) (x := x) (ahead := ahead) (fun h => by have := (stdOk_iff x.std).2 h.1; rw [h1] at this; cases this))
    clear g1 h1
    go_enter Tryz.func170, Tryz.ntmps170
    go_wp2_with (go_at_call 225; (with_reducible refine (G1.out _).mono ?_); rintro e w4 ⟨rfl, rfl⟩)
    go_ret
    exact ⟨ret_bool HX.out, HB.out⟩
  have g1 := (isStd_any x.std); rw [h1] at g1
  have G1 := Lib.hid g1
  have H1 := Lib.hid ((stdOk_iff x.std).1 h1)
  clear g1 h1
  cases h2 : withinB x.set (-1) ((d.sn : Int) - 1)
  · have g2 := (within_any x.set (-1) ((d.sn : Int) - 1)); rw [h2] at g2
    have G2 := Lib.hid g2
    have HX := Lib.hid (eraOk_no (ns := d.sn) (x := x) (ahead := ahead) (fun h => (withinB_no _ _ _).1 h2 ⟨h.2.1.1, by have := h.2.1.2; omega⟩))
    clear g2 h2
    go_enter Tryz.func170, Tryz.ntmps170
    go_wp2_with (first
      | (go_at_call 225; (with_reducible refine (G1.out _).mono ?_); rintro e w4 ⟨rfl, rfl⟩)
      | (go_at_call 45; (with_reducible refine (G2.out _).mono ?_); rintro e w4 ⟨rfl, rfl⟩))
    go_ret
    exact ⟨ret_bool HX.out, HB.out⟩
  have g2 := (within_any x.set (-1) ((d.sn : Int) - 1)); rw [h2] at g2
  have G2 := Lib.hid g2
  have H2 := Lib.hid ((withinB_iff _ _ _).1 h2)
  clear g2 h2
  cases h3 : withinB x.save 0 7200
  · have g3 := (within_any x.save 0 7200); rw [h3] at g3
    have G3 := Lib.hid g3
    have HX := Lib.hid (eraOk_no (ns := d.sn) (x := x) (ahead := ahead) (fun h => (withinB_no _ _ _).1 h3 h.2.2.1))
    clear g3 h3
    go_enter Tryz.func170, Tryz.ntmps170
    go_wp2_with (first
      | (go_at_call 225; (with_reducible refine (G1.out _).mono ?_); rintro e w4 ⟨rfl, rfl⟩)
      | (go_at_call 45; (with_reducible refine (G2.out _).mono ?_); rintro e w4 ⟨rfl, rfl⟩)
      | (go_at_call 45; (with_reducible refine (G3.out _).mono ?_); rintro e w4 ⟨rfl, rfl⟩))
    go_ret
    exact ⟨ret_bool HX.out, HB.out⟩
  have g3 := (within_any x.save 0 7200); rw [h3] at g3
  have G3 := Lib.hid g3
  have H3 := Lib.hid ((withinB_iff _ _ _).1 h3)
  clear g3 h3
  cases h6 : decide (ahead < x.til)
  · have HX6 := Lib.hid (eraOk_no (ns := d.sn) (x := x) (ahead := ahead) (fun h => by simp at h6; omega))
    cases h4 : (x.set == -1)
    · cases h5 : (x.save == 0)
      · go_enter Tryz.func170, Tryz.ntmps170
        go_wp2_with (first
          | (go_at_call 225; (with_reducible refine (G1.out _).mono ?_); rintro e w4 ⟨rfl, rfl⟩)
          | (go_at_call 45; (with_reducible refine (G2.out _).mono ?_); rintro e w4 ⟨rfl, rfl⟩)
          | (go_at_call 45; (with_reducible refine (G3.out _).mono ?_); rintro e w4 ⟨rfl, rfl⟩))
        go_ret
        exact ⟨ret_bool HX6.out, HB.out⟩
      · go_enter Tryz.func170, Tryz.ntmps170
        go_wp2_with (first
          | (go_at_call 225; (with_reducible refine (G1.out _).mono ?_); rintro e w4 ⟨rfl, rfl⟩)
          | (go_at_call 45; (with_reducible refine (G2.out _).mono ?_); rintro e w4 ⟨rfl, rfl⟩)
          | (go_at_call 45; (with_reducible refine (G3.out _).mono ?_); rintro e w4 ⟨rfl, rfl⟩))
        go_ret
        exact ⟨ret_bool HX6.out, HB.out⟩
    · go_enter Tryz.func170, Tryz.ntmps170
      go_wp2_with (first
        | (go_at_call 225; (with_reducible refine (G1.out _).mono ?_); rintro e w4 ⟨rfl, rfl⟩)
        | (go_at_call 45; (with_reducible refine (G2.out _).mono ?_); rintro e w4 ⟨rfl, rfl⟩)
        | (go_at_call 45; (with_reducible refine (G3.out _).mono ?_); rintro e w4 ⟨rfl, rfl⟩))
      go_ret
      exact ⟨ret_bool HX6.out, HB.out⟩
  · cases h4 : (x.set == -1)
    · cases h5 : (x.save == 0)
      · have HX := Lib.hid (eraOk_no (ns := d.sn) (x := x) (ahead := ahead) (fun h => by simp at h4 h5; omega))
        go_enter Tryz.func170, Tryz.ntmps170
        go_wp2_with (first
          | (go_at_call 225; (with_reducible refine (G1.out _).mono ?_); rintro e w4 ⟨rfl, rfl⟩)
          | (go_at_call 45; (with_reducible refine (G2.out _).mono ?_); rintro e w4 ⟨rfl, rfl⟩)
          | (go_at_call 45; (with_reducible refine (G3.out _).mono ?_); rintro e w4 ⟨rfl, rfl⟩))
        go_ret
        exact ⟨ret_bool HX.out, HB.out⟩
      · have HX := Lib.hid ((eraOk_iff d.sn x ahead).2 ⟨H1.out, ⟨H2.out.1, by have := H2.out.2; omega⟩, H3.out, .inr (by simpa using h5), by simpa using h6⟩)
        go_enter Tryz.func170, Tryz.ntmps170
        go_wp2_with (first
          | (go_at_call 225; (with_reducible refine (G1.out _).mono ?_); rintro e w4 ⟨rfl, rfl⟩)
          | (go_at_call 45; (with_reducible refine (G2.out _).mono ?_); rintro e w4 ⟨rfl, rfl⟩)
          | (go_at_call 45; (with_reducible refine (G3.out _).mono ?_); rintro e w4 ⟨rfl, rfl⟩))
        go_ret
        exact ⟨ret_bool HX.out.symm, HB.out⟩
    · have HX := Lib.hid ((eraOk_iff d.sn x ahead).2 ⟨H1.out, ⟨H2.out.1, by have := H2.out.2; omega⟩, H3.out, .inl (by simp at h4; omega), by simpa using h6⟩)
      go_enter Tryz.func170, Tryz.ntmps170
      go_wp2_with (first
        | (go_at_call 225; (with_reducible refine (G1.out _).mono ?_); rintro e w4 ⟨rfl, rfl⟩)
        | (go_at_call 45; (with_reducible refine (G2.out _).mono ?_); rintro e w4 ⟨rfl, rfl⟩)
        | (go_at_call 45; (with_reducible refine (G3.out _).mono ?_); rintro e w4 ⟨rfl, rfl⟩))
      go_ret
      exact ⟨ret_bool HX.out.symm, HB.out⟩
end Go.Proofs.YtbbbeldbhlehnaaGreatDoor
end
/-! Arguments of type Rule and []Rule, opened. -/
section
set_option linter.unusedVariables false
set_option linter.unusedSimpArgs false
set_option maxRecDepth 100000
namespace Go.Proofs.YtbbbeldbhlehnaaGreatDoor
open Go.ChangeShapes Go.WideShapes Go.ChangeAt Go.RowKit Gno

theorem cellsInt : Tryz.prog.cellsOf 3 = 1 := by kernel_rfl
theorem cellsString : Tryz.prog.cellsOf 9 = 1 := by kernel_rfl
theorem cellsOn' : Tryz.prog.cellsOf 121 = 3 := by kernel_rfl
theorem cellsRule : Tryz.prog.cellsOf 123 = 9 := by kernel_rfl
theorem list9 {α : Type} {l : List α} (h : l.length = 9) : ∃ a b c d e f g i j, l = [a, b, c, d, e, f, g, i, j] := by
  match l, h with
  | [a, b, c, d, e, f, g, i, j], _ => exact ⟨a, b, c, d, e, f, g, i, j, rfl⟩
def _root_.Gno.Rl.cells (r : Rl) : List Value := [.int .i64 r.fy, .int .i64 r.ty, .int .i64 r.mo, .int .i64 r.k, .int .i64 r.wk, .int .i64 r.d, .int .i64 r.a, .int .i64 r.sv, .string r.le]

section
variable {H : Type} {enc : TypeId × Value → H} {w : World} {base : Nat} {spare : Nat → Bool} {held : Bool}
theorem trod_On {fuel : Nat} {c0 c1 c2 : Value} {x : DataW H × List MemPlace} (h : DataW.trod enc Tryz.prog w base spare held fuel 121 [c0, c1, c2] = some x) :
    ∃ k wk d : Int, c0 = .int .i64 k ∧ c1 = .int .i64 wk ∧ c2 = .int .i64 d := by
  obtain ⟨xs, n, _, _, _, hlen, hf⟩ := DataW.trod_struct Tryz.underlying121 h
  have h0 := hf 0 _ rfl
  have h1 := hf 1 _ rfl
  have h2 := hf 2 _ rfl
  simp [cellsInt] at h0 h1 h2
  rw [List.getElem?_eq_getElem (by simp at hlen; omega)] at h0 h1 h2
  obtain ⟨k, e0, _⟩ := DataW.trod_int Tryz.underlying3 h0
  obtain ⟨wk, e1, _⟩ := DataW.trod_int Tryz.underlying3 h1
  obtain ⟨d, e2, _⟩ := DataW.trod_int Tryz.underlying3 h2
  simp at e0 e1 e2
  exact ⟨k, wk, d, e0, e1, e2⟩
theorem trod_Rule {fuel : Nat} {cs : List Value} {x : DataW H × List MemPlace} (h : DataW.trod enc Tryz.prog w base spare held fuel 123 cs = some x) :
    ∃ r : Rl, cs = r.cells ∧ r.le.size ≤ maxLen := by
  obtain ⟨xs, n, _, _, hl, hlen, hf⟩ := DataW.trod_struct Tryz.underlying123 h
  obtain ⟨c0, c1, c2, c3, c4, c5, c6, c7, c8, rfl⟩ := list9 (hl.trans cellsRule)
  have h0 := hf 0 _ rfl
  have h1 := hf 1 _ rfl
  have h2 := hf 2 _ rfl
  have h3 := hf 3 _ rfl
  have h4 := hf 4 _ rfl
  have h5 := hf 5 _ rfl
  have h6 := hf 6 _ rfl
  simp [cellsInt, cellsString, cellsOn'] at h0 h1 h2 h3 h4 h5 h6
  rw [List.getElem?_eq_getElem (by simp at hlen; omega)] at h0 h1 h2 h3 h4 h5 h6
  obtain ⟨fy, e0, _⟩ := DataW.trod_int Tryz.underlying3 h0
  obtain ⟨ty, e1, _⟩ := DataW.trod_int Tryz.underlying3 h1
  obtain ⟨mo, e2, _⟩ := DataW.trod_int Tryz.underlying3 h2
  obtain ⟨k, wk, d, e3, e4, e5⟩ := trod_On h3
  obtain ⟨a, e6, _⟩ := DataW.trod_int Tryz.underlying3 h4
  obtain ⟨sv, e7, _⟩ := DataW.trod_int Tryz.underlying3 h5
  obtain ⟨le, e8, _, hs⟩ := DataW.trod_string Tryz.underlying9 h6
  simp at e0 e1 e2 e6 e7 e8
  exact ⟨⟨fy, ty, mo, k, wk, d, a, sv, le⟩, by rw [e0, e1, e2, e3, e4, e5, e6, e7, e8]; rfl, hs⟩
theorem openRule {b0 : Nat} {r : Reach} {v : Value} {d : DataW H} {p : List MemPlace}
    (hv : Value.okWide Tryz.prog w r b0 123 v) (h : DataW.Trod enc Tryz.prog w base spare held 123 v d p) :
    ∃ fy ty mo k wk d a sv : Int, ∃ le : ByteArray, v = .agg #[.int .i64 fy, .int .i64 ty, .int .i64 mo, .int .i64 k, .int .i64 wk, .int .i64 d, .int .i64 a, .int .i64 sv, .string le] ∧ le.size ≤ maxLen := by
  obtain ⟨cs, rfl, _⟩ := okWide_struct Tryz.underlying123 hv
  obtain ⟨fuel, hf⟩ := h
  obtain ⟨r, e, hs⟩ := trod_Rule (cs := cs.toList) hf
  obtain ⟨l⟩ := cs
  simp only at e
  subst e
  exact ⟨r.fy, r.ty, r.mo, r.k, r.wk, r.d, r.a, r.sv, r.le, rfl, hs⟩
theorem lt_of_cell {w : World} {b o : Nat} {v : Value} (h : w.cell? ⟨b, o, none⟩ = some v) : b < w.heap.size := by
  rcases Nat.lt_or_ge b w.heap.size with q | q
  · exact q
  · simp [World.cell?, Array.getElem?_eq_none q] at h
theorem openRules {b0 : Nat} {r : Reach} {v : Value} {d : DataW H} {p : List MemPlace}
    (hv : Value.okWide Tryz.prog w r b0 113 v) (h : DataW.Trod enc Tryz.prog w base spare held 113 v d p) :
    ∃ (A : Option Addr) (n cap : Nat) (rs : List Rl), v = .slice A n cap ∧ RulesAt w w.heap.size A n rs := by
  obtain ⟨a0, len, cap, rfl⟩ := okWide_slice Tryz.underlying113 hv
  obtain ⟨fuel, hf⟩ := h
  rcases Go.Deep.open_slice Tryz.underlying113 hf with ⟨hc, _⟩ | ⟨a, len', cap', m, n, D, Pl, hc, hb, hl, hm, hmm, _, hi⟩
  · simp [Value.cells] at hc
    obtain ⟨rfl, rfl, rfl⟩ := hc
    exact ⟨none, 0, 0, [], rfl, rfl, by decide, fun h => absurd h (by omega)⟩
  · simp [Value.cells] at hc
    obtain ⟨rfl, rfl, rfl⟩ := hc
    have hlm : len ≤ m := by rw [hmm]; split <;> omega
    have hx : ∀ i, ∃ r : Rl, i < len → (r.le.size ≤ maxLen ∧ ∀ j, j < 9 → w.cell? ((a.add (i * 9)).add j) = r.cells[j]?) := fun i => by
      by_cases hlt : i < len
      · obtain ⟨cs', hc, ht⟩ := hi i (by omega)
        rw [cellsRule] at hc
        obtain ⟨_, _, hcell⟩ := World.cells?_some hc
        obtain ⟨r, rfl, hs⟩ := trod_Rule ht
        exact ⟨r, fun _ => ⟨hs, hcell⟩⟩
      · exact ⟨⟨0, 0, 0, 0, 0, 0, 0, 0, ByteArray.empty⟩, fun h => absurd h hlt⟩
    have hR : ∃ R : Nat → Rl, ∀ i, i < len → ((R i).le.size ≤ maxLen ∧ ∀ j, j < 9 → w.cell? ((a.add (i * 9)).add j) = (R i).cells[j]?) := ⟨fun i => (hx i).choose, fun i => (hx i).choose_spec⟩
    obtain ⟨R, hR⟩ := hR
    refine ⟨some a, len, cap, (List.range len).map R, rfl, by simp, by omega, fun hp => ?_⟩
    obtain ⟨b, off, spot⟩ := a
    have hspot : spot = none := by
      have := (hR 0 hp).2 0 (by omega)
      simpa [Addr.add] using World.cell?_spot (this.trans (by simp [Rl.cells]; rfl))
    subst hspot
    have hplain : ∀ i j, ((Addr.mk b off none).add (i * 9)).add j = ⟨b, off + i * 9 + j, none⟩ := fun i j => by rw [Go.WideShapes.add_plain, Go.WideShapes.add_plain]
    have h0 := (hR 0 hp).2 0 (by omega)
    rw [hplain] at h0
    refine ⟨b, off, rfl, lt_of_cell (h0.trans (by simp [Rl.cells]; rfl)), fun i r hr => ?_⟩
    have hil : i < len := by
      rcases Nat.lt_or_ge i len with q | q
      · exact q
      · rw [List.getElem?_eq_none (by simpa using q)] at hr; cases hr
    have hre : R i = r := by
      rw [List.getElem?_eq_getElem (by simpa using hil)] at hr
      simpa using hr
    obtain ⟨hs, hcell⟩ := hR i hil
    rw [hre] at hs hcell
    simp only [hplain] at hcell
    exact ⟨⟨hcell 0 (by omega), hcell 1 (by omega), hcell 2 (by omega), hcell 3 (by omega), hcell 4 (by omega), hcell 5 (by omega), hcell 6 (by omega), hcell 7 (by omega), hcell 8 (by omega)⟩, hs⟩
end
end Go.Proofs.YtbbbeldbhlehnaaGreatDoor
end
/-! An argument of type Data, and one of type Link, opened, where they are small. -/
section
set_option linter.unusedVariables false
set_option linter.unusedSimpArgs false
set_option maxRecDepth 100000
namespace Go.Proofs.YtbbbeldbhlehnaaGreatDoor
open Go.ChangeShapes Go.WideShapes Go.ChangeAt Go.RowKit Gno
theorem cellsEra : Tryz.prog.cellsOf 125 = 5 := by kernel_rfl
theorem cellsZone : Tryz.prog.cellsOf 54 = 2 := by kernel_rfl
theorem cellsSet : Tryz.prog.cellsOf 115 = 2 := by kernel_rfl
theorem cellsLink : Tryz.prog.cellsOf 127 = 2 := by kernel_rfl
theorem cellsData : Tryz.prog.cellsOf 26 = 3 := by kernel_rfl
theorem cellsEras : Tryz.prog.cellsOf 52 = 1 := by kernel_rfl
theorem cellsRules : Tryz.prog.cellsOf 113 = 1 := by kernel_rfl
theorem cellsSets : Tryz.prog.cellsOf 22 = 1 := by kernel_rfl
theorem cellsZones : Tryz.prog.cellsOf 23 = 1 := by kernel_rfl
theorem cellsLinks : Tryz.prog.cellsOf 24 = 1 := by kernel_rfl
section
variable {H : Type} {enc : TypeId × Value → H} {w : World} {base : Nat} {spare : Nat → Bool} {held : Bool}
theorem part_small {xs : List (DataW H × List MemPlace)} (h : Small (.agg (xs.map (·.1)))) {i : Nat} (hi : i < xs.length) : Small xs[i].1 :=
  h.part (List.mem_map.2 ⟨_, List.getElem_mem hi, rfl⟩)
theorem trod_Link {fuel : Nat} {cs : List Value} {x : DataW H × List MemPlace} (ht : DataW.trod enc Tryz.prog w base spare held fuel 127 cs = some x) :
    ∃ a : Lk, cs = [.string a.name, .string a.to] ∧ a.name.size ≤ maxLen ∧ a.to.size ≤ maxLen := by
  obtain ⟨xs, n, _, _, hl, hlen, hf⟩ := DataW.trod_struct Tryz.underlying127 ht
  match cs, hl.trans cellsLink with
  | [c0, c1], _ =>
    have h0 := hf 0 _ rfl
    have h1 := hf 1 _ rfl
    simp [cellsString] at h0 h1
    rw [List.getElem?_eq_getElem (by simp at hlen; omega)] at h0 h1
    obtain ⟨k, e0, _, hs⟩ := DataW.trod_string Tryz.underlying9 h0
    obtain ⟨t, e1, _, hs1⟩ := DataW.trod_string Tryz.underlying9 h1
    simp at e0 e1
    exact ⟨⟨k, t⟩, by rw [e0, e1], hs, hs1⟩
theorem trod_Era {fuel : Nat} {cs : List Value} {x : DataW H × List MemPlace} (ht : DataW.trod enc Tryz.prog w base spare held fuel 125 cs = some x) (hx : Small x.1) :
    ∃ a : Er, cs = [.int .i64 a.std, .int .i64 a.set, .int .i64 a.save, .string a.fmt, .int .i64 a.til] ∧ a.fmt.size ≤ fmtMax := by
  obtain ⟨xs, n, _, rfl, hl, hlen, hf⟩ := DataW.trod_struct Tryz.underlying125 ht
  match cs, hl.trans cellsEra with
  | [c0, c1, c2, c3, c4], _ =>
    have hlen' : xs.length = 5 := by simpa using hlen
    have h0 := hf 0 _ rfl
    have h1 := hf 1 _ rfl
    have h2 := hf 2 _ rfl
    have h3 := hf 3 _ rfl
    have h4 := hf 4 _ rfl
    simp [cellsString, cellsInt] at h0 h1 h2 h3 h4
    rw [List.getElem?_eq_getElem (by omega)] at h0 h1 h2 h3 h4
    obtain ⟨std, e0, _⟩ := DataW.trod_int Tryz.underlying3 h0
    obtain ⟨set, e1, _⟩ := DataW.trod_int Tryz.underlying3 h1
    obtain ⟨save, e2, _⟩ := DataW.trod_int Tryz.underlying3 h2
    obtain ⟨fmt, e3, e3', hs⟩ := DataW.trod_string Tryz.underlying9 h3
    obtain ⟨til, e4, _⟩ := DataW.trod_int Tryz.underlying3 h4
    have hsm := part_small hx (i := 3) (by omega)
    rw [e3'] at hsm
    have := hsm.str
    simp at e0 e1 e2 e3 e4
    exact ⟨⟨std, set, save, fmt, til⟩, by rw [e0, e1, e2, e3, e4], (show fmt.size ≤ fmtMax by unfold fmtMax; omega)⟩
theorem trod_Zone {fuel : Nat} {cs : List Value} {x : DataW H × List MemPlace} (ht : DataW.trod enc Tryz.prog w base spare held fuel 54 cs = some x) (hx : Small x.1) :
    ∃ a : Zn, cs = [.string a.name, .slice a.A a.n a.cap] ∧ a.name.size ≤ maxLen ∧ ErasAt w w.heap.size a.A a.n a.es := by
  obtain ⟨xs, n, _, rfl, hl, hlen, hf⟩ := DataW.trod_struct Tryz.underlying54 ht
  match cs, hl.trans cellsZone with
  | [c0, c1], _ =>
    have hlen' : xs.length = 2 := by simpa using hlen
    have h0 := hf 0 _ rfl
    have h1 := hf 1 _ rfl
    simp [cellsString, cellsEras] at h0 h1
    rw [List.getElem?_eq_getElem (by omega)] at h0 h1
    obtain ⟨k, e0, _, hs⟩ := DataW.trod_string Tryz.underlying9 h0
    obtain ⟨A, m, cap, es, e1, _, _, hes, _⟩ := open_slice_sm (α := Er) (sz := 5) Tryz.underlying52 cellsEra (by omega) (fun w B b o x => ErAt w b o x ∧ x.fmt.size ≤ fmtMax) (fun fuel cs x ht hx => by
      obtain ⟨a, rfl, hf⟩ := trod_Era ht hx
      exact ⟨a, rfl, fun b o hc => ⟨⟨hc 0 (by omega), hc 1 (by omega), hc 2 (by omega), hc 3 (by omega), hc 4 (by omega)⟩, hf⟩⟩) h1 (part_small hx (i := 1) (by omega))
    simp at e0 e1
    exact ⟨⟨k, A, m, cap, es⟩, by rw [e0, e1], hs, hes⟩
theorem trod_Set {fuel : Nat} {cs : List Value} {x : DataW H × List MemPlace} (ht : DataW.trod enc Tryz.prog w base spare held fuel 115 cs = some x) (hx : Small x.1) :
    ∃ a : St, cs = [.string a.name, .slice a.A a.n a.cap] ∧ a.name.size ≤ maxLen ∧ RulesAt w w.heap.size a.A a.n a.rs := by
  obtain ⟨xs, n, _, rfl, hl, hlen, hf⟩ := DataW.trod_struct Tryz.underlying115 ht
  match cs, hl.trans cellsSet with
  | [c0, c1], _ =>
    have hlen' : xs.length = 2 := by simpa using hlen
    have h0 := hf 0 _ rfl
    have h1 := hf 1 _ rfl
    simp [cellsString, cellsRules] at h0 h1
    rw [List.getElem?_eq_getElem (by omega)] at h0 h1
    obtain ⟨k, e0, _, hs⟩ := DataW.trod_string Tryz.underlying9 h0
    obtain ⟨A, m, cap, rs, e1, _, _, hrs⟩ := open_slice_gen (α := Rl) (sz := 9) Tryz.underlying113 cellsRule (by omega) (fun w B b o r => RuleAt w b o r ∧ r.le.size ≤ maxLen) (fun fuel cs x ht => by
      obtain ⟨r, rfl, hle⟩ := trod_Rule ht
      exact ⟨r, rfl, fun b o hc => ⟨⟨hc 0 (by omega), hc 1 (by omega), hc 2 (by omega), hc 3 (by omega), hc 4 (by omega), hc 5 (by omega), hc 6 (by omega), hc 7 (by omega), hc 8 (by omega)⟩, hle⟩⟩) h1
    simp at e0 e1
    exact ⟨⟨k, A, m, cap, rs⟩, by rw [e0, e1], hs, hrs⟩
theorem openDataF {b0 : Nat} {r : Reach} {v : Value} {dt : DataW H} {p : List MemPlace}
    (hv : Value.okWide Tryz.prog w r b0 26 v) (h : DataW.Trod enc Tryz.prog w base spare held 26 v dt p) (hx : Small dt) :
    ∃ d : Dt, v = d.val ∧ DataAt w w.heap.size d ∧ d.ln ≤ 1048576 ∧ (d.lA = none → d.ln = 0 ∧ d.lc = 0) := by
  obtain ⟨cs, rfl, _⟩ := okWide_struct Tryz.underlying26 hv
  obtain ⟨fuel, hf0⟩ := h
  obtain ⟨xs, n, _, hxs, hl, hlen, hf⟩ := DataW.trod_struct Tryz.underlying26 hf0
  clear hf0
  have hdt : dt = .agg (xs.map (·.1)) := congrArg (·.1) hxs
  subst hdt
  have hlen' : xs.length = 3 := by simpa using hlen
  have hcl : cs.toList.length = 3 := by simpa [Value.cells] using hl.trans cellsData
  match cs, hcl with
  | ⟨[c0, c1, c2]⟩, _ =>
    have h0 := hf 0 _ rfl
    have h1 := hf 1 _ rfl
    have h2 := hf 2 _ rfl
    simp [cellsSets, cellsZones, cellsLinks, Value.cells] at h0 h1 h2
    rw [List.getElem?_eq_getElem (by omega)] at h0 h1 h2
    obtain ⟨A0, n0, cap0, ss, e0, _, _, hss, _⟩ := open_slice_sm (α := St) (sz := 2) Tryz.underlying22 cellsSet (by omega) (fun w B b o s => StAt w b o s ∧ s.name.size ≤ maxLen ∧ RulesAt w B s.A s.n s.rs) (fun fuel cs x ht hx => by
      obtain ⟨a, rfl, hs, hr⟩ := trod_Set ht hx
      exact ⟨a, rfl, fun b o hc => ⟨⟨hc 0 (by omega), hc 1 (by omega)⟩, hs, hr⟩⟩) h0 (part_small hx (i := 0) (by omega))
    obtain ⟨A1, n1, cap1, zs, e1, _, _, hzs, _⟩ := open_slice_sm (α := Zn) (sz := 2) Tryz.underlying23 cellsZone (by omega) (fun w B b o z => ZnAt w b o z ∧ z.name.size ≤ maxLen ∧ ErasAt w B z.A z.n z.es) (fun fuel cs x ht hx => by
      obtain ⟨a, rfl, hs, hr⟩ := trod_Zone ht hx
      exact ⟨a, rfl, fun b o hc => ⟨⟨hc 0 (by omega), hc 1 (by omega)⟩, hs, hr⟩⟩) h1 (part_small hx (i := 1) (by omega))
    obtain ⟨A2, n2, cap2, ls, e2, _, _, hls, hn2, hN2⟩ := open_slice_sm (α := Lk) (sz := 2) Tryz.underlying24 cellsLink (by omega) (fun w B b o l => LkAt w b o l ∧ l.name.size ≤ maxLen ∧ l.to.size ≤ maxLen) (fun fuel cs x ht hx => by
      obtain ⟨a, rfl, hs, hr⟩ := trod_Link ht
      exact ⟨a, rfl, fun b o hc => ⟨⟨hc 0 (by omega), hc 1 (by omega)⟩, hs, hr⟩⟩) h2 (part_small hx (i := 2) (by omega))
    simp at e0 e1 e2
    exact ⟨{ sA := A0, sn := n0, sc := cap0, ss := ss, zA := A1, zn := n1, zc := cap1, zs := zs, lA := A2, ln := n2, lc := cap2, ls := ls }, by rw [e0, e1, e2]; rfl, ⟨hss, hzs, hls, (show n2 ≤ fmtMax by unfold fmtMax; omega)⟩, hn2, hN2⟩
theorem openData {b0 : Nat} {r : Reach} {v : Value} {dt : DataW H} {p : List MemPlace}
    (hv : Value.okWide Tryz.prog w r b0 26 v) (h : DataW.Trod enc Tryz.prog w base spare held 26 v dt p) (hx : Small dt) :
    ∃ d : Dt, v = d.val ∧ DataAt w w.heap.size d := by
  obtain ⟨d, h1, h2, _⟩ := openDataF hv h hx
  exact ⟨d, h1, h2⟩
theorem openLink {b0 : Nat} {r : Reach} {v : Value} {dt : DataW H} {p : List MemPlace}
    (hv : Value.okWide Tryz.prog w r b0 127 v) (h : DataW.Trod enc Tryz.prog w base spare held 127 v dt p) :
    ∃ a : Lk, v = .agg #[.string a.name, .string a.to] ∧ a.name.size ≤ maxLen ∧ a.to.size ≤ maxLen := by
  obtain ⟨cs, rfl, _⟩ := okWide_struct Tryz.underlying127 hv
  obtain ⟨fuel, hf⟩ := h
  obtain ⟨a, hc, h1, h2⟩ := trod_Link hf
  refine ⟨a, ?_, h1, h2⟩
  have : cs.toList = [.string a.name, .string a.to] := by simpa [Value.cells] using hc
  rw [← Array.toArray_toList (xs := cs), this]
end
end Go.Proofs.YtbbbeldbhlehnaaGreatDoor
end
