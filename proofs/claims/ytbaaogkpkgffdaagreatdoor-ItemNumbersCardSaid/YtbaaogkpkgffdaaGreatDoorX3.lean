/- A part of an executor of the model over abstract values, and what it tells of the calls. -/
import Derived.Test.YtbaaogkpkgffdaaGreatDoorX2
namespace Go.Exe
open Go
set_option linter.unusedSectionVars false
variable [Env]

/-! ### the heap's operations -/
noncomputable def hoC {β : Type} (d : β) (k : Nat → Tr AV → Bool → Bool → β) (o : HO) : β := HO.rec (motive := fun _ => β) k (fun _ _ _ => d) (fun _ => d) (fun _ => d) (fun _ _ _ => d) o
noncomputable def blk {β : Type} (d : β) (k : Nat → Tr AV → Bool → Bool → β) (h : Hp) (i : Pt) : β := Option.rec d (hoC d k) (getP i h.t)
noncomputable def cellIn (o : Nat) (s : Nat) (t : Tr AV) (_ _ : Bool) : Option AV := sel (Nat.blt o s) (getP (pt o) t) none
noncomputable def cellAt (h : Hp) (i : Pt) (o : Nat) : Option AV := blk none (cellIn o) h i
noncomputable def setB (h : Hp) (i : Pt) (b : HO) : Hp := Hp.rec (motive := fun _ => Hp) (fun n t lg ln => ⟨n, setP b i t, .cons i lg, Nat.succ ln⟩) h
noncomputable def newH (h : Hp) (b : HO) : Hp := Hp.rec (motive := fun _ => Hp) (fun n t lg ln => ⟨succP n, setP b n t, lg, ln⟩) h
noncomputable def consO (a l : Option AV) : Option AV := Option.rec none (fun a => Option.rec none (fun l => some (.cons a l)) l) a
noncomputable def getsT (t : Tr AV) : Nat → Nat → Option AV := Nat.rec (fun _ => some .nil) (fun _ ih o => consO (getP (pt o) t) (ih (Nat.succ o)))
noncomputable def loadIn (n o : Nat) (s : Nat) (t : Tr AV) (_ _ : Bool) : Option AV := sel (Nat.ble (Nat.add o n) s) (getsT t n o) none
noncomputable def loadN (h : Hp) (i : Pt) (n o : Nat) : Option AV := blk none (loadIn n o) h i
/-- a fold over a list of values -/
noncomputable def foldV {β : Type} (z : β) (f : AV → β → β) (l : AV) : β := AV.rec (motive := fun _ => β) (fun _ => z) (fun _ _ => z) (fun _ _ => z) (fun _ _ => z) z (fun _ _ _ _ _ _ => z) z (fun _ => z) z (fun _ _ _ => z) z (fun _ _ => z) (fun _ _ => z) z z (fun a _ _ ih => f a ih) z l
noncomputable def putL (l : AV) : Nat → Tr AV → Tr AV := foldV (fun _ t => t) (fun a ih o t => ih (Nat.succ o) (setP a (pt o) t)) l
noncomputable def lenL (l : AV) : Nat := foldV 0 (fun _ n => Nat.succ n) l
noncomputable def appL (l m : AV) : AV := foldV m (fun a ih => .cons a ih) l
/-- may a block of these marks be written? -/
noncomputable def wrF (op mk : Bool) : Bool := Bool.rec (Bool.rec true false mk) true op
noncomputable def storeIn (h : Hp) (i : Pt) (o : Nat) (l : AV) (s : Nat) (t : Tr AV) (op mk : Bool) : Option Hp := sel (wrF op mk) (sel (Nat.ble (Nat.add o (lenL l)) s) (some (setB h i (.cells s (putL l o t) op mk))) none) none
noncomputable def storeL (h : Hp) (i : Pt) (o : Nat) (l : AV) : Option Hp := blk none (storeIn h i o l) h i
noncomputable def newBlk (h : Hp) (cells : AV) (op mk : Bool) : Hp := newH h (.cells (lenL cells) (putL cells 0 .E) op mk)
noncomputable def kill (h : Hp) (i : Pt) : Hp := Hp.rec (motive := fun _ => Hp) (fun n t lg ln => ⟨n, putP none i t, .cons i lg, Nat.succ ln⟩) h
noncomputable def hpN {β : Type} (h : Hp) (k : Pt → β) : β := Hp.rec (motive := fun _ => β) (fun n _ _ _ => k n) h
@[simp] theorem hpN_eq {β : Type} (h : Hp) (k : Pt → β) : hpN h k = k h.n := rfl

theorem wrF_wrI {h : Hp} {i : Pt} {s : Nat} {t : Tr AV} {op mk : Bool} (g : getP i h.t = some (.cells s t op mk)) (e : wrF op mk = true) : wrI h i := ⟨_, g, by cases op <;> cases mk <;> first | rfl | cases e⟩

/-! #### lists of values -/
theorem VL_nil_inv {φ : PM} {l : List Value} (h : VL φ .nil l) : l = [] := h
theorem VL_cons_inv {φ : PM} {a b : AV} {l : List Value} (h : VL φ (.cons a b) l) : ∃ v vs, l = v :: vs ∧ VR φ a v ∧ VL φ b vs := h

/-- an abstract list that tells of some list is a chain of cons -/
theorem VL_induct {φ : PM} {motive : AV → List Value → Prop} (hn : motive .nil []) (hc : ∀ a b v vs, VR φ a v → VL φ b vs → motive b vs → motive (.cons a b) (v :: vs)) :
    ∀ {a : AV} {l : List Value}, VL φ a l → motive a l := by
  intro a
  induction a with
  | nil => intro l h; rw [VL_nil_inv h]; exact hn
  | cons a b _ ihb => intro l h; obtain ⟨v, vs, rfl, h1, h2⟩ := VL_cons_inv h; exact hc _ _ _ _ h1 h2 (ihb h2)
  | _ => intro l h; exact False.elim h

@[simp] theorem lenL_nil : lenL .nil = 0 := rfl
@[simp] theorem lenL_cons (a b : AV) : lenL (.cons a b) = lenL b + 1 := rfl
@[simp] theorem appL_nil (m : AV) : appL .nil m = m := rfl
@[simp] theorem appL_cons (a b m : AV) : appL (.cons a b) m = .cons a (appL b m) := rfl
@[simp] theorem putL_nil (o : Nat) (t : Tr AV) : putL .nil o t = t := rfl
@[simp] theorem putL_cons (a b : AV) (o : Nat) (t : Tr AV) : putL (.cons a b) o t = putL b (o + 1) (setP a (pt o) t) := rfl

theorem VL.len {φ : PM} {a : AV} {l : List Value} (h : VL φ a l) : lenL a = l.length := by
  refine VL_induct (motive := fun a l => lenL a = l.length) rfl ?_ h
  intro a b v vs h1 h2 ih; simp [ih]

theorem VL.app {φ : PM} {a b : AV} {l m : List Value} (h : VL φ a l) (k : VL φ b m) : VL φ (appL a b) (l ++ m) := by
  refine VL_induct (motive := fun a l => VL φ (appL a b) (l ++ m)) k ?_ h
  intro a b v vs h1 h2 ih; exact VL.cons h1 ih

/-- what a trie holds behind a list of puts -/
theorem putL_get {φ : PM} {a : AV} {l : List Value} (h : VL φ a l) : ∀ (o : Nat) (t : Tr AV) (j : Nat),
    (j < o ∨ o + l.length ≤ j → getP (pt j) (putL a o t) = getP (pt j) t) ∧
    (o ≤ j → j < o + l.length → ∃ b v, getP (pt j) (putL a o t) = some b ∧ l[j - o]? = some v ∧ VR φ b v) := by
  refine VL_induct (motive := fun a l => ∀ (o : Nat) (t : Tr AV) (j : Nat),
    (j < o ∨ o + l.length ≤ j → getP (pt j) (putL a o t) = getP (pt j) t) ∧
    (o ≤ j → j < o + l.length → ∃ b v, getP (pt j) (putL a o t) = some b ∧ l[j - o]? = some v ∧ VR φ b v)) ?_ ?_ h
  · exact fun o t j => ⟨fun _ => rfl, fun h1 h2 => by simp at h2; omega⟩
  · intro a b v vs h1 h2 ih
    intro o t j
    rw [putL_cons]
    obtain ⟨i1, i2⟩ := ih (o + 1) (setP a (pt o) t) j
    refine ⟨fun hj => ?_, fun ho hj => ?_⟩
    · simp only [List.length_cons] at hj
      rw [i1 (by omega), getP_setP_ne]
      exact pt_ne (by omega)
    · simp only [List.length_cons] at hj
      by_cases e : j = o
      · subst e
        refine ⟨a, v, ?_, by simp, h1⟩
        rw [i1 (by omega), getP_setP_same]
      · obtain ⟨b', v', g1, g2, g3⟩ := i2 (by omega) (by omega)
        refine ⟨b', v', g1, ?_, g3⟩
        rw [show j - o = (j - (o + 1)) + 1 from by omega, List.getElem?_cons_succ]
        exact g2

theorem blt_lt {a b : Nat} (h : Nat.blt a b = true) : a < b := by simpa [Nat.blt_eq] using h
/-! #### reading -/
theorem blk_some {β : Type} {d : β} {k : Nat → Tr AV → Bool → Bool → β} {h : Hp} {i : Pt} {s : Nat} {t : Tr AV} {op mk : Bool} (e : getP i h.t = some (.cells s t op mk)) : blk d k h i = k s t op mk := by
  unfold blk; rw [e]; rfl
theorem blk_inv {β : Type} {d : β} {k : Nat → Tr AV → Bool → Bool → β} {h : Hp} {i : Pt} (hne : blk d k h i ≠ d) :
    ∃ s t op mk, getP i h.t = some (.cells s t op mk) ∧ blk d k h i = k s t op mk := by
  cases e : getP i h.t with
  | none => exact absurd (by unfold blk; rw [e]) hne
  | some o =>
    cases o with
    | cells s t op mk => exact ⟨s, t, op, mk, rfl, blk_some e⟩
    | siter => exact absurd (by unfold blk; rw [e]; rfl) hne
    | map => exact absurd (by unfold blk; rw [e]; rfl) hne
    | mapU => exact absurd (by unfold blk; rw [e]; rfl) hne
    | miter => exact absurd (by unfold blk; rw [e]; rfl) hne

theorem sel_some_inv {α : Type} {b : Bool} {x : Option α} {a : α} (h : sel b x none = some a) : b = true ∧ x = some a := by
  cases b with
  | true => exact ⟨rfl, h⟩
  | false => cases h

theorem cellAt_inv {h : Hp} {i : Pt} {o : Nat} {a : AV} (e : cellAt h i o = some a) : ∃ s t op mk, getP i h.t = some (.cells s t op mk) ∧ o < s ∧ getP (pt o) t = some a := by
  obtain ⟨s, t, op, mk, g, hb⟩ := blk_inv (k := cellIn o) (h := h) (i := i) (d := none) (by show cellAt h i o ≠ none; rw [e]; simp)
  have e2 : cellIn o s t op mk = some a := by rw [← hb]; exact e
  obtain ⟨h1, h2⟩ := sel_some_inv e2
  exact ⟨s, t, op, mk, g, blt_lt h1, h2⟩

theorem WR.cell {φ : PM} {h : Hp} {w : World} (k : WR φ h w) {i : Pt} {o : Nat} {a : AV} (e : cellAt h i o = some a) {p : PB} (hp : φ i = some p) :
    ∃ v, w.cell? ⟨p.blk, p.off + o, none⟩ = some v ∧ VR φ a v := by
  obtain ⟨s, t, op, mk, g, ho, ha⟩ := cellAt_inv e
  obtain ⟨q, hq, c, T, fr, hc, _, _, _, _, hall⟩ := k.obj _ _ g
  rw [hp] at hq; cases hq
  obtain ⟨v, hv, hr⟩ := hall o a ho ha
  exact ⟨v, by simp [World.cell?, hc, hv], hr⟩

theorem consO_inv {a l : Option AV} {x : AV} (h : consO a l = some x) : ∃ b m, a = some b ∧ l = some m ∧ x = .cons b m := by
  cases a with
  | none => cases h
  | some b => cases l with
    | none => cases h
    | some m => cases h; exact ⟨b, m, rfl, rfl, rfl⟩

/-- the cells of a stretch, as values -/
theorem getsT_vals {φ : PM} {t : Tr AV} {c : Array Value} {d s : Nat} (hall : ∀ j a, j < s → getP (pt j) t = some a → ∃ v, c[d + j]? = some v ∧ VR φ a v) :
    ∀ (n o : Nat) (x : AV), o + n ≤ s → getsT t n o = some x → ∃ l : List Value, l.length = n ∧ VL φ x l ∧ ∀ j, j < n → c[d + o + j]? = l[j]? := by
  intro n
  induction n with
  | zero => intro o x _ h; cases h; exact ⟨[], rfl, VL.nil _, fun j hj => by omega⟩
  | succ n ih =>
    intro o x hs h
    obtain ⟨b, m, h1, h2, rfl⟩ := consO_inv (a := getP (pt o) t) (l := getsT t n (Nat.succ o)) h
    obtain ⟨l, hl, hv, hc⟩ := ih (o + 1) m (by omega) h2
    obtain ⟨v, hv0, hr⟩ := hall o b (by omega) h1
    refine ⟨v :: l, by simp [hl], VL.cons hr hv, fun j hj => ?_⟩
    cases j with
    | zero => simpa using hv0
    | succ j =>
      rw [List.getElem?_cons_succ, ← hc j (by omega)]
      congr 1
      omega

theorem loadN_inv {h : Hp} {i : Pt} {n o : Nat} {x : AV} (e : loadN h i n o = some x) : ∃ s t op mk, getP i h.t = some (.cells s t op mk) ∧ o + n ≤ s ∧ getsT t n o = some x := by
  obtain ⟨s, t, op, mk, g, hb⟩ := blk_inv (k := loadIn n o) (h := h) (i := i) (d := none) (by show loadN h i n o ≠ none; rw [e]; simp)
  have e2 : loadIn n o s t op mk = some x := by rw [← hb]; exact e
  obtain ⟨h1, h2⟩ := sel_some_inv e2
  exact ⟨s, t, op, mk, g, Nat.le_of_ble_eq_true h1, h2⟩

/-- the cells of a stretch of a block -/
theorem WR.cells {φ : PM} {h : Hp} {w : World} (k : WR φ h w) {i : Pt} {n o : Nat} {x : AV} (e : loadN h i n o = some x) {p : PB} (hp : φ i = some p) :
    ∃ l : List Value, l.length = n ∧ VL φ x l ∧ ∀ j v, l[j]? = some v → w.cell? ⟨p.blk, p.off + o + j, none⟩ = some v := by
  obtain ⟨s, t, op, mk, g, ho, ha⟩ := loadN_inv e
  obtain ⟨q, hq, c, T, fr, hc, _, _, _, _, hall⟩ := k.obj _ _ g
  rw [hp] at hq; cases hq
  obtain ⟨l, hl, hv, hcs⟩ := getsT_vals hall n o x ho ha
  refine ⟨l, hl, hv, fun j v hj => ?_⟩
  have hjn : j < n := by rw [← hl]; exact (List.getElem?_eq_some_iff.1 hj).1
  simp [World.cell?, hc, hcs j hjn, hj]

theorem WR.shape {φ : PM} {h : Hp} {w : World} (k : WR φ h w) {i : Pt} {s : Nat} {t : Tr AV} {op mk : Bool} (g : getP i h.t = some (.cells s t op mk)) {p : PB} (hp : φ i = some p) :
    ∃ T n, w.shape? p.blk = some (T, n) ∧ p.top ≤ n ∧ ∀ o, o < p.top → w.frozen? ⟨p.blk, o, none⟩ = false := by
  obtain ⟨q, hq, c, T, fr, hc, _, ht, _, hf, _⟩ := k.obj _ _ g
  rw [hp] at hq; cases hq
  refine ⟨T, c.size, by simp [World.shape?, hc], ht, fun o ho => ?_⟩
  simp only [World.frozen?, hc]
  have := hf o ho
  cases h1 : (decide (fr.1 ≤ o) && decide (o < fr.2)) with
  | false => rfl
  | true => simp at h1; exact absurd h1 this
end Go.Exe
