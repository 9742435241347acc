/- A part of an executor of the model over abstract values, and what it tells of the calls. -/
import Derived.Test.YtbaaogkpkgffdaaGreatDoorX19
namespace Go.Exe
open Go
set_option linter.unusedSectionVars false

/-! ### tables and their checks -/
deriving instance DecidableEq for FI
deriving instance DecidableEq for CK
deriving instance DecidableEq for TI
deriving instance DecidableEq for TE

noncomputable def zvOf (v : Value) : AV := match v with
  | .agg cs => .agg (cvL cs.toList)
  | v => cvA v
noncomputable def fiOf (P : Program) (f : Field) : Option FI :=
  match P.info? f.type, P.underlying f.type with
  | some i, some d => if i.size = 0 then none else some ⟨f.offset, f.type, i.size, aggD d⟩
  | _, _ => none
noncomputable def fisOf (P : Program) : List Field → Option (List FI)
  | [] => some []
  | f :: fs => match fiOf P f, fisOf P fs with
    | some g, some gs => some (g :: gs)
    | _, _ => none
noncomputable def tiOf (P : Program) : TypeDesc → TI
  | .int k => .int k
  | .bool => .bool
  | .string => .str
  | .pointer e => .ptr e
  | .slice e => .slice e
  | .array n e => .arr n e
  | .map k e => .map k e
  | .struct fs => match fisOf P fs.toList with
    | some gs => .struct gs
    | none => .other
  | .func .. => .func
  | _ => .other
noncomputable def cmpOf (P : Program) (t : Nat) : List CK := match flatK P 20 t with
  | some ks => if P.eqGuardType P.depth t then [] else ks
  | none => []
noncomputable def mkTE (P : Program) (t : Nat) : Option TE :=
  match P.info? t, P.underlying t with
  | some i, some d => match i.zero with
    | some z => if z.cells.size = i.size then some ⟨tiOf P d, i.size, i.bytes, aggD d, cvL z.cells.toList, zvOf z, cmpOf P t⟩ else none
    | none => none
  | _, _ => none

section
variable [Env]
theorem zvOf_sound (φ : PM) (v : Value) : VR φ (zvOf v) v := by
  unfold zvOf
  split
  · exact ⟨_, rfl, cvL_sound φ _⟩
  · exact cvA_sound φ _

theorem fiOf_sound {P : Program} {f : Field} {g : FI} (e : fiOf P f = some g) : FIok P g f := by
  unfold fiOf at e
  split at e
  · rename_i i d hi hd
    split at e
    · cases e
    · rename_i hne
      cases e
      exact ⟨rfl, rfl, ⟨i, hi, rfl⟩, hne, ⟨d, hd, rfl⟩⟩
  · cases e
theorem fisOf_sound {P : Program} : ∀ {fs : List Field} {gs : List FI}, fisOf P fs = some gs → FsOk P gs fs
  | [], gs, e => by cases e; trivial
  | f :: fs, gs, e => by
    unfold fisOf at e
    split at e
    · rename_i g gs' h1 h2
      cases e
      exact ⟨fiOf_sound h1, fisOf_sound h2⟩
    · cases e

theorem tiOf_sound {P : Program} (d : TypeDesc) : TIok P (tiOf P d) d := by
  cases d <;> simp [tiOf, TIok]
  rename_i fs
  cases h : fisOf P fs.toList with
  | none => trivial
  | some gs => simpa [TIok] using fisOf_sound h

theorem mkTE_sound {P : Program} {t : Nat} {te : TE} (e : mkTE P t = some te) : TEok P t te := by
  unfold mkTE at e
  split at e
  · rename_i i d hi hd
    split at e
    · rename_i z hz
      split at e
      · rename_i hs
        cases e
        refine ⟨⟨i, z, hi, rfl, rfl, hz, fun φ => zvOf_sound φ z, fun φ => cvL_sound φ _, hs⟩, ⟨d, hd, tiOf_sound d, rfl⟩, fun hne => ?_⟩
        unfold cmpOf at hne ⊢
        cases hk : flatK P 20 t with
        | none => rw [hk] at hne; exact absurd rfl hne
        | some ks =>
          rw [hk] at hne
          cases hg : P.eqGuardType P.depth t with
          | true => simp [hg] at hne
          | false => simp
      · cases e
    · cases e
  · cases e

end
def allB {α : Type} : Tr α → (Nat → α → Bool) → Bool
  | .E, _ => true
  | .N l v r, f => (match v with | none => true | some a => f 0 a) && (allB l (fun i => f (2 * i + 1)) && allB r (fun i => f (2 * i + 2)))
def AllP {α : Type} : Tr α → (Nat → α → Prop) → Prop
  | .E, _ => True
  | .N l v r, f => (match v with | none => True | some a => f 0 a) ∧ (AllP l (fun i => f (2 * i + 1)) ∧ AllP r (fun i => f (2 * i + 2)))

theorem allB_get {α : Type} : ∀ (p : Pt) {t : Tr α} {f : Nat → α → Bool} {a : α}, allB t f = true → getP p t = some a → f (toN p) a = true
  | p, .E, f, a, _, e => by simp at e
  | .o, .N l v r, f, a, h, e => by
    simp only [allB, Bool.and_eq_true] at h
    obtain rfl : v = some a := e
    exact h.1
  | .l p, .N l v r, f, a, h, e => by
    simp only [allB, Bool.and_eq_true] at h
    exact allB_get p h.2.1 e
  | .r p, .N l v r, f, a, h, e => by
    simp only [allB, Bool.and_eq_true] at h
    exact allB_get p h.2.2 e
theorem AllP_get {α : Type} : ∀ (p : Pt) {t : Tr α} {f : Nat → α → Prop} {a : α}, AllP t f → getP p t = some a → f (toN p) a
  | p, .E, f, a, _, e => by simp at e
  | .o, .N l v r, f, a, h, e => by
    simp only [AllP] at h
    obtain rfl : v = some a := e
    exact h.1
  | .l p, .N l v r, f, a, h, e => by
    simp only [AllP] at h
    exact AllP_get p h.2.1 e
  | .r p, .N l v r, f, a, h, e => by
    simp only [AllP] at h
    exact AllP_get p h.2.2 e

noncomputable def teB (P : Program) (t : Nat) (te : TE) : Bool := decide (mkTE P t = some te)
section
variable [Env]
theorem TTok_of {P : Program} {t : Tr TE} {F : FK → AV → Option AV} (hF : FactsOk P F) (h : allB t (teB P) = true) : TTok P ⟨t, F⟩ := ⟨fun i te e => by
  have := allB_get (pt i) h e
  rw [toN_pt] at this
  exact mkTE_sound (of_decide_eq_true this), hF⟩
noncomputable def noF : FK → AV → Option AV := fun _ _ => none
theorem noF_ok (P : Program) : FactsOk P noF := fun _ _ _ _ _ _ e => by cases e

end
/-- what is known of symbols does not matter to the tables -/
theorem readOp_F (t : Tr TE) (F F' : FK → AV → Option AV) (o : Op) : readOp ⟨t, F⟩ o = readOp ⟨t, F'⟩ o := rfl
theorem schedOk_F (t : Tr TE) (F F' : FK → AV → Option AV) (ops : Array Oper) : ∀ (l : List SI) (C : Array Bool) (S : List (Nat × Nat)) (PR : List Nat), schedOk ⟨t, F⟩ ops l C S PR = schedOk ⟨t, F'⟩ ops l C S PR := by
  intro l
  induction l with
  | nil => intro C S PR; rfl
  | cons x l ih =>
    intro C S PR
    cases x <;> simp only [schedOk, readOp_F t F F', ih]
theorem schedC_F (t : Tr TE) (F F' : FK → AV → Option AV) (sch : Tr (List SI)) : ∀ c : Code, schedC ⟨t, F⟩ sch c = schedC ⟨t, F'⟩ sch c := by
  intro c
  induction c with
  | region id ops d => cases d <;> simp only [schedC, schedOk_F t F F']
  | _ => simp_all only [schedC]
theorem FEok_F {P : Program} {t : Tr TE} {F : FK → AV → Option AV} (F' : FK → AV → Option AV) {f : Nat} {fe : FE} (h : FEok P ⟨t, F⟩ f fe) : FEok P ⟨t, F'⟩ f fe := ⟨h.fn, h.nl, by rw [schedC_F t F' F]; exact h.sch⟩
theorem FTok_F {P : Program} {t : Tr TE} {F : FK → AV → Option AV} (F' : FK → AV → Option AV) {ft : Tr FE} (h : FTok P ⟨t, F⟩ ft) : FTok P ⟨t, F'⟩ ft := fun f fe e => FEok_F F' (h f fe e)

noncomputable def feOf (nl : Nat) (sch : Tr (List SI)) (fn : Func) : FE := ⟨nl, fn.ntmps, fn.results.toList, fn.body.getD .skip, sch⟩
noncomputable def feB (tt : TT) (nl : Nat) (sch : Tr (List SI)) (fn : Func) : Bool := !(fn.name == "runtime.NumGoroutine") && fn.body.isSome && Nat.ble nl fn.ntmps && schedC tt sch (fn.body.getD .skip)
theorem feOk {P : Program} {tt : TT} {f nl : Nat} {sch : Tr (List SI)} {fn : Func} (hf : P.funcs[f]? = some fn) (hb : feB tt nl sch fn = true) : FEok P tt f (feOf nl sch fn) := by
  unfold feB at hb
  simp only [Bool.and_eq_true, Bool.not_eq_true'] at hb
  obtain ⟨⟨⟨h1, h2⟩, h3⟩, h4⟩ := hb
  obtain ⟨c, hc⟩ := Option.isSome_iff_exists.1 h2
  refine ⟨⟨fn, hf, h1, ?_, rfl, rfl⟩, Nat.le_of_ble_eq_true h3, h4⟩
  show fn.body = some (fn.body.getD .skip)
  rw [hc]; rfl
theorem FTok_of {P : Program} {tt : TT} {ft : Tr FE} (h : AllP ft (FEok P tt)) : FTok P tt ft := fun f fe e => by
  have := AllP_get (pt f) h e
  rwa [toN_pt] at this

/-- a heap of which only some of the package's variables, and what they lead to, are told -/
noncomputable def hpOf (t : Tr HO) : Hp := ⟨pt 1000, t, [], 0⟩
section
variable [Env]
noncomputable def φ00 : PM := fun i => if toN i < 400 then some ⟨toN i, 0, 0⟩ else none
theorem WR.empty (w : World) : WR φ00 (hpOf .E) w := by
  refine ⟨fun g hg => ⟨0, by simp [φ00, toN_pt, hg]⟩, fun i o e => by simp [hpOf] at e, fun i j p q e => by simp [hpOf] at e, fun i hi => ⟨by simp [hpOf], ?_⟩⟩
  have : 1000 ≤ toN i := by have h : toN (hpOf .E).n = 1000 := toN_pt 1000; omega
  simp [φ00]; omega
end
noncomputable def isTrue (r : CR) : Bool := CR.rec (motive := fun _ => Bool) (fun _ => false) (fun v _ => onBool false (fun b => b) v) r
theorem isTrue_inv {r : CR} (h : isTrue r = true) : ∃ h', r = .val (.bool true) h' := by
  cases r with
  | fail n => cases h
  | val v h' =>
    cases v <;> first | (cases h; done) | skip
    rename_i b
    obtain rfl : b = true := h
    exact ⟨h', rfl⟩
noncomputable def noOrc : Nat → Option (AV → Hp → CR) := fun _ => none
section
variable [Env]
theorem noOrc_ok (P : Program) : OrcOk P noOrc := fun _ _ e => by cases e
end
end Go.Exe
