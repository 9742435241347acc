/- A part of an executor of the model over abstract values, and what it tells of the calls. -/
import Derived.Test.YtbaaogkpkgffdaaGreatDoorX3
namespace Go.Exe
open Go
set_option linter.unusedSectionVars false
variable [Env]

noncomputable def PM.set (φ : PM) (i : Pt) (p : PB) : PM := fun j => if j = i then some p else φ j
theorem PM.set_same (φ : PM) (i : Pt) (p : PB) : φ.set i p i = some p := by simp [PM.set]
theorem PM.set_ne (φ : PM) {i j : Pt} (p : PB) (h : j ≠ i) : φ.set i p j = φ j := by simp [PM.set, h]
theorem PM.le_set {φ : PM} {i : Pt} (p : PB) (h : φ i = none) : φ.le (φ.set i p) := fun j q e => by
  have : j ≠ i := fun e2 => by rw [e2, h] at e; cases e
  rw [PM.set_ne _ _ this]; exact e

/-- a world that is another but for one block -/
structure But (b : Nat) (w w' : World) : Prop where
  os : w'.os = w.os
  tape : w'.tape = w.tape
  output : w'.output = w.output
  size : w.heap.size ≤ w'.heap.size
  block : ∀ k, k < w.heap.size → k ≠ b → w'.heap[k]? = w.heap[k]?

theorem fresh_ne {φ : PM} {h : Hp} {w : World} (k : WR φ h w) {j : Pt} (hj : (getP j h.t).isSome) : j ≠ h.n := fun e => by
  rw [e, (k.fresh h.n (Nat.le_refl _)).1] at hj; cases hj

/-- a new block -/
theorem WR.alloc {φ : PM} {h : Hp} {w : World} (k : WR φ h w) (obj : Obj) (b : HO) (top : Nat)
    (hb : OR (φ.set h.n ⟨w.heap.size, 0, top⟩) ⟨w.heap.size, 0, top⟩ { w with heap := w.heap.push obj } b) :
    Stp φ h w (φ.set h.n ⟨w.heap.size, 0, top⟩) (newH h b) { w with heap := w.heap.push obj } where
  ext := PM.le_set _ (k.fresh _ (Nat.le_refl _)).2
  wr := by
    have hle : φ.le (φ.set h.n ⟨w.heap.size, 0, top⟩) := PM.le_set _ (k.fresh _ (Nat.le_refl _)).2
    refine ⟨k.gl.mono hle, fun i o hi => ?_, fun i j p q hi hj hp hq e => ?_, fun i hi => ?_⟩
    · by_cases e : i = h.n
      · subst e
        rw [show (newH h b).t = setP b h.n h.t from rfl, getP_setP_same] at hi
        cases hi
        exact ⟨_, PM.set_same _ _ _, hb⟩
      · rw [show (newH h b).t = setP b h.n h.t from rfl, getP_setP_ne _ _ e] at hi
        obtain ⟨p, hp, ho⟩ := k.obj i o hi
        refine ⟨p, hle _ _ hp, (ho.heap ?_).mono hle⟩
        have := ho.lt
        show (w.heap.push obj)[p.blk]? = _
        rw [Array.getElem?_push, if_neg (by omega)]
    · have key : ∀ i p, (getP i (newH h b).t).isSome → φ.set h.n ⟨w.heap.size, 0, top⟩ i = some p → (i = h.n ∧ p.blk = w.heap.size) ∨ ((getP i h.t).isSome ∧ φ i = some p ∧ p.blk < w.heap.size) := by
        intro i p hi hp
        by_cases e : i = h.n
        · subst e; rw [PM.set_same] at hp; cases hp; exact .inl ⟨rfl, rfl⟩
        · rw [show (newH h b).t = setP b h.n h.t from rfl, getP_setP_ne _ _ e] at hi
          rw [PM.set_ne _ _ e] at hp
          obtain ⟨o, ho⟩ := Option.isSome_iff_exists.1 hi
          obtain ⟨p', hp', hor⟩ := k.obj i o ho
          rw [hp] at hp'; cases hp'
          exact .inr ⟨hi, hp, hor.lt⟩
      rcases key i p hi hp with ⟨e1, e2⟩ | ⟨h1, h2, h3⟩ <;> rcases key j q hj hq with ⟨f1, f2⟩ | ⟨g1, g2, g3⟩
      · rw [e1, f1]
      · omega
      · omega
      · exact k.inj i j p q h1 g1 h2 g2 e
    · have hi' : toN h.n + 1 ≤ toN i := by rw [← toN_succP]; exact hi
      have hne : i ≠ h.n := fun e => by rw [e] at hi'; omega
      obtain ⟨f1, f2⟩ := k.fresh i (by omega)
      exact ⟨by rw [show (newH h b).t = setP b h.n h.t from rfl, getP_setP_ne _ _ hne]; exact f1, by rw [PM.set_ne _ _ hne]; exact f2⟩
  fr := ⟨rfl, rfl, rfl, by simp, fun x hx _ => by show (w.heap.push obj)[x]? = _; rw [Array.getElem?_push, if_neg (by omega)]⟩
  orig := fun i p hi hp => by
    by_cases e : i = h.n
    · subst e; rw [PM.set_same] at hp; cases hp; exact .inr (Nat.le_refl _)
    · rw [show (newH h b).t = setP b h.n h.t from rfl, getP_setP_ne _ _ e] at hi
      rw [PM.set_ne _ _ e] at hp
      exact .inl ⟨i, p, hi, hp, rfl⟩
  origW := fun i p ⟨o, hi, ho⟩ hp => by
    by_cases e : i = h.n
    · subst e; rw [PM.set_same] at hp; cases hp; exact .inr (Nat.le_refl _)
    · rw [show (newH h b).t = setP b h.n h.t from rfl, getP_setP_ne _ _ e] at hi
      rw [PM.set_ne _ _ e] at hp
      exact .inl ⟨i, p, ⟨o, hi, ho⟩, hp, rfl⟩
  next := by show toN h.n ≤ toN (succP h.n); rw [toN_succP]; omega
  lg := ⟨[], rfl, (Nat.zero_add _).symm, fun i hi _ => getP_setP_ne _ _ (fun e => by rw [e] at hi; omega)⟩

/-- a block is changed -/
theorem WR.modify {φ : PM} {h : Hp} {w w' : World} (k : WR φ h w) {i : Pt} (hw0 : wrI h i) {p : PB} (hp : φ i = some p) (hw : But p.blk w w') {b : HO} (hb : OR φ p w' b) :
    Stp φ h w φ (setB h i b) w' where
  ext := PM.le_refl _
  wr := by
    have hi := hw0.isSome
    refine ⟨k.gl, fun j o hj => ?_, fun j l q r hj hl hq hr e => ?_, fun j hj => ?_⟩
    · by_cases e : j = i
      · subst e
        rw [show (setB h j b).t = setP b j h.t from rfl, getP_setP_same] at hj
        cases hj
        exact ⟨p, hp, hb⟩
      · rw [show (setB h i b).t = setP b i h.t from rfl, getP_setP_ne _ _ e] at hj
        obtain ⟨q, hq, ho⟩ := k.obj j o hj
        refine ⟨q, hq, ho.heap (hw.block _ ho.lt ?_)⟩
        exact fun e2 => e (k.inj j i q p (by rw [hj]; rfl) hi hq hp e2)
    · have key : ∀ j, (getP j (setB h i b).t).isSome → (getP j h.t).isSome := by
        intro j hj
        by_cases e : j = i
        · rw [e]; exact hi
        · rwa [show (setB h i b).t = setP b i h.t from rfl, getP_setP_ne _ _ e] at hj
      exact k.inj j l q r (key j hj) (key l hl) hq hr e
    · obtain ⟨f1, f2⟩ := k.fresh j hj
      have : j ≠ i := fun e => by rw [e, hp] at f2; cases f2
      exact ⟨by rw [show (setB h i b).t = setP b i h.t from rfl, getP_setP_ne _ _ this]; exact f1, f2⟩
  fr := ⟨hw.os, hw.tape, hw.output, hw.size, fun x hx hn => hw.block x hx fun e => hn i p hw0 hp e.symm⟩
  orig := fun j q hj hq => by
    by_cases e : j = i
    · subst e; rw [hp] at hq; cases hq; exact .inl ⟨j, p, hw0.isSome, hp, rfl⟩
    · rw [show (setB h i b).t = setP b i h.t from rfl, getP_setP_ne _ _ e] at hj
      exact .inl ⟨j, q, hj, hq, rfl⟩
  origW := fun j q ⟨o, hj, ho⟩ hq => by
    by_cases e : j = i
    · subst e; rw [hp] at hq; cases hq; exact .inl ⟨j, p, hw0, hp, rfl⟩
    · rw [show (setB h i b).t = setP b i h.t from rfl, getP_setP_ne _ _ e] at hj
      exact .inl ⟨j, q, ⟨o, hj, ho⟩, hq, rfl⟩
  next := Nat.le_refl _
  lg := ⟨[i], rfl, Nat.add_comm _ _ ▸ rfl, fun j _ hn => getP_setP_ne _ _ (fun e => hn (by rw [e]; exact List.mem_singleton.2 rfl))⟩

/-- a block is forgotten -/
theorem WR.kill {φ : PM} {h : Hp} {w : World} (k : WR φ h w) (i : Pt) : Stp φ h w φ (Exe.kill h i) w where
  ext := PM.le_refl _
  wr := by
    have key : ∀ j o, getP j (Exe.kill h i).t = some o → getP j h.t = some o := by
      intro j o hj
      by_cases e : j = i
      · subst e; rw [show (Exe.kill h j).t = putP none j h.t from rfl, getP_putP_same] at hj; cases hj
      · rwa [show (Exe.kill h i).t = putP none i h.t from rfl, getP_putP_ne _ _ _ _ e] at hj
    refine ⟨k.gl, fun j o hj => k.obj j o (key j o hj), fun j l q r hj hl hq hr e => ?_, fun j hj => ?_⟩
    · obtain ⟨a, ha⟩ := Option.isSome_iff_exists.1 hj
      obtain ⟨b, hb⟩ := Option.isSome_iff_exists.1 hl
      exact k.inj j l q r (by rw [key _ _ ha]; rfl) (by rw [key _ _ hb]; rfl) hq hr e
    · obtain ⟨f1, f2⟩ := k.fresh j hj
      refine ⟨?_, f2⟩
      cases hc : getP j (Exe.kill h i).t with
      | none => rfl
      | some o => rw [key j o hc] at f1; cases f1
  fr := FrameP.refl _ _ _
  orig := fun j q hj hq => by
    refine .inl ⟨j, q, ?_, hq, rfl⟩
    by_cases e : j = i
    · subst e; rw [show (Exe.kill h j).t = putP none j h.t from rfl, getP_putP_same] at hj; cases hj
    · rwa [show (Exe.kill h i).t = putP none i h.t from rfl, getP_putP_ne _ _ _ _ e] at hj
  origW := fun j q ⟨o, hj, ho⟩ hq => by
    refine .inl ⟨j, q, ⟨o, ?_, ho⟩, hq, rfl⟩
    by_cases e : j = i
    · subst e; rw [show (Exe.kill h j).t = putP none j h.t from rfl, getP_putP_same] at hj; cases hj
    · rwa [show (Exe.kill h i).t = putP none i h.t from rfl, getP_putP_ne _ _ _ _ e] at hj
  next := Nat.le_refl _
  lg := ⟨[i], rfl, Nat.add_comm _ _ ▸ rfl, fun j _ hn => getP_putP_ne _ _ _ _ (fun e => hn (by rw [e]; exact List.mem_singleton.2 rfl))⟩

/-- a block takes a new name: it has grown in its place -/
theorem WR.rename {φ : PM} {h : Hp} {w w' : World} (k : WR φ h w) {i : Pt} (hw0 : wrI h i) {p q : PB} (hp : φ i = some p) (hq : q.blk = p.blk) (hw : But p.blk w w') {b : HO}
    (hb : OR (φ.set h.n q) q w' b) : Stp φ h w (φ.set h.n q) (newH (Exe.kill h i) b) w' where
  ext := PM.le_set _ (k.fresh _ (Nat.le_refl _)).2
  wr := by
    have hle : φ.le (φ.set h.n q) := PM.le_set _ (k.fresh _ (Nat.le_refl _)).2
    have hi := hw0.isSome
    have hni : i ≠ h.n := fresh_ne k hi
    have key : ∀ j o, getP j (newH (Exe.kill h i) b).t = some o → (j = h.n ∧ o = b) ∨ (j ≠ h.n ∧ j ≠ i ∧ getP j h.t = some o) := by
      intro j o hj
      rw [show (newH (Exe.kill h i) b).t = setP b h.n (putP none i h.t) from rfl] at hj
      by_cases e : j = h.n
      · subst e; rw [getP_setP_same] at hj; cases hj; exact .inl ⟨rfl, rfl⟩
      · rw [getP_setP_ne _ _ e] at hj
        by_cases e2 : j = i
        · subst e2; rw [getP_putP_same] at hj; cases hj
        · rw [getP_putP_ne _ _ _ _ e2] at hj; exact .inr ⟨e, e2, hj⟩
    refine ⟨k.gl.mono hle, fun j o hj => ?_, fun j l r s hj hl hr hs e => ?_, fun j hj => ?_⟩
    · rcases key j o hj with ⟨e1, e2⟩ | ⟨n1, n2, g⟩
      · subst e1; subst e2; exact ⟨q, PM.set_same _ _ _, hb⟩
      · obtain ⟨r, hr, ho⟩ := k.obj j o g
        refine ⟨r, hle _ _ hr, (ho.heap (hw.block _ ho.lt ?_)).mono hle⟩
        exact fun e2 => n2 (k.inj j i r p (by rw [g]; rfl) hi hr hp e2)
    · obtain ⟨a, ha⟩ := Option.isSome_iff_exists.1 hj
      obtain ⟨c, hc⟩ := Option.isSome_iff_exists.1 hl
      rcases key j a ha with ⟨e1, _⟩ | ⟨n1, n2, g⟩ <;> rcases key l c hc with ⟨f1, _⟩ | ⟨m1, m2, g2⟩
      · rw [e1, f1]
      · exfalso
        rw [e1, PM.set_same] at hr; cases hr
        rw [PM.set_ne _ _ m1] at hs
        exact m2 (k.inj l i s p (by rw [g2]; rfl) hi hs hp (by rw [← e, hq]))
      · exfalso
        rw [f1, PM.set_same] at hs; cases hs
        rw [PM.set_ne _ _ n1] at hr
        exact n2 (k.inj j i r p (by rw [g]; rfl) hi hr hp (by rw [e, hq]))
      · rw [PM.set_ne _ _ n1] at hr; rw [PM.set_ne _ _ m1] at hs
        exact k.inj j l r s (by rw [g]; rfl) (by rw [g2]; rfl) hr hs e
    · have hj' : toN h.n + 1 ≤ toN j := by rw [← toN_succP]; exact hj
      have hne : j ≠ h.n := fun e => by rw [e] at hj'; omega
      obtain ⟨f1, f2⟩ := k.fresh j (by omega)
      refine ⟨?_, by rw [PM.set_ne _ _ hne]; exact f2⟩
      cases hc : getP j (newH (Exe.kill h i) b).t with
      | none => rfl
      | some o => rcases key j o hc with ⟨e1, _⟩ | ⟨_, _, g⟩
                  · exact absurd e1 hne
                  · rw [g] at f1; cases f1
  fr := ⟨hw.os, hw.tape, hw.output, hw.size, fun x hx hn => hw.block x hx fun e => hn i p hw0 hp e.symm⟩
  orig := fun j r hj hr => by
    rw [show (newH (Exe.kill h i) b).t = setP b h.n (putP none i h.t) from rfl] at hj
    by_cases e : j = h.n
    · subst e; rw [PM.set_same] at hr; cases hr; exact .inl ⟨i, p, hw0.isSome, hp, hq.symm⟩
    · rw [getP_setP_ne _ _ e] at hj
      rw [PM.set_ne _ _ e] at hr
      by_cases e2 : j = i
      · subst e2; rw [getP_putP_same] at hj; cases hj
      · rw [getP_putP_ne _ _ _ _ e2] at hj; exact .inl ⟨j, r, hj, hr, rfl⟩
  origW := fun j r ⟨o, hj, ho⟩ hr => by
    rw [show (newH (Exe.kill h i) b).t = setP b h.n (putP none i h.t) from rfl] at hj
    by_cases e : j = h.n
    · subst e; rw [PM.set_same] at hr; cases hr; exact .inl ⟨i, p, hw0, hp, hq.symm⟩
    · rw [getP_setP_ne _ _ e] at hj
      rw [PM.set_ne _ _ e] at hr
      by_cases e2 : j = i
      · subst e2; rw [getP_putP_same] at hj; cases hj
      · rw [getP_putP_ne _ _ _ _ e2] at hj; exact .inl ⟨j, r, ⟨o, hj, ho⟩, hr, rfl⟩
  next := by show toN h.n ≤ toN (succP h.n); rw [toN_succP]; omega
  lg := ⟨[i], rfl, Nat.add_comm _ _ ▸ rfl, fun j hj hn => (getP_setP_ne _ _ (fun e => by rw [e] at hj; exact absurd hj (Nat.lt_irrefl _))).trans (getP_putP_ne _ _ _ _ (fun e => hn (by rw [e]; exact List.mem_singleton.2 rfl)))⟩

/-! #### stores in the world -/
theorem But.refl (b : Nat) (w : World) : But b w w := ⟨rfl, rfl, rfl, Nat.le_refl _, fun _ _ _ => rfl⟩
theorem But.trans {b : Nat} {x y z : World} (h : But b x y) (k : But b y z) : But b x z :=
  ⟨k.os.trans h.os, k.tape.trans h.tape, k.output.trans h.output, Nat.le_trans h.size k.size, fun i hi hn => (k.block i (Nat.lt_of_lt_of_le hi h.size) hn).trans (h.block i hi hn)⟩

def oneCells (l : List Value) : Prop := ∀ v, v ∈ l → one1 v = true

/-- what a row of stores does -/
theorem run_storeCells (P : Program) (p : Addr) (hsp : p.spot = none) : ∀ (l : List Value) (i : Nat) (w : World) (c : Array Value) (T : TypeId) (fr : Nat × Nat), w.heap[p.block]? = some (.cells c T fr) →
    p.off + i + l.length ≤ c.size → (∀ j, p.off + i ≤ j → j < p.off + i + l.length → ¬ (fr.1 ≤ j ∧ j < fr.2)) → oneCells l →
    ∃ (w' : World) (c' : Array Value), (storeCells p l i).run P w = .ok () w' ∧ w'.heap[p.block]? = some (.cells c' T fr) ∧ c'.size = c.size ∧ But p.block w w' ∧ w'.heap.size = w.heap.size ∧
      ∀ j, c'[j]? = if p.off + i ≤ j ∧ j < p.off + i + l.length then l[j - (p.off + i)]? else c[j]? := by
  intro l
  induction l with
  | nil =>
    intro i w c T fr hw _ _ _
    refine ⟨w, c, rfl, hw, rfl, But.refl _ _, rfl, fun j => ?_⟩
    rw [if_neg (by simp)]
  | cons v l ih =>
    intro i w c T fr hw hs hf h1
    have hadd : p.add i = ⟨p.block, p.off + i, none⟩ := by
      unfold Addr.add
      cases p with
      | mk b o s => cases hsp; by_cases e : i = 0 <;> simp [e]
    have hlt : p.off + i < c.size := by simp at hs; omega
    have hcell : w.cell? (p.add i) = some c[p.off + i] := by simp [hadd, World.cell?, hw, Array.getElem?_eq_getElem hlt]
    have hfz : w.frozen? (p.add i) = false := by
      rw [hadd]; simp only [World.frozen?, hw]
      have := hf (p.off + i) (Nat.le_refl _) (by simp)
      cases h2 : (decide (fr.1 ≤ p.off + i) && decide (p.off + i < fr.2)) with
      | false => rfl
      | true => simp at h2; exact absurd h2 this
    have hset : (w.setCell (p.add i) v).heap[p.block]? = some (.cells (c.setIfInBounds (p.off + i) v) T fr) := by
      rw [hadd]; simp only [World.setCell, Array.getElem?_modify, if_true, hw]; simp
    have hsz : (w.setCell (p.add i) v).heap.size = w.heap.size := by simp [World.setCell]
    obtain ⟨w', c', hrun, hw', hc', hbut, hs', hall⟩ := ih (i + 1) (w.setCell (p.add i) v) _ T fr hset (by simp at hs ⊢; omega) (fun j h3 h4 => hf j (by omega) (by simp; omega)) (fun u hu => h1 u (List.mem_cons_of_mem _ hu))
    refine ⟨w', c', ?_, hw', by simpa using hc', ?_, by rw [hs', hsz], fun j => ?_⟩
    · have h1v : one1 v = true := h1 v (List.mem_cons_self ..)
      have : (storeCells p (v :: l) i).run P w = (storeCells p l (i + 1)).run P (w.setCell (p.add i) v) := by
        show (Sem.bind (store (p.add i) v) fun _ => storeCells p l (i + 1)).run P w = _
        unfold store
        simp only [Sem.bind]
        cases v <;> first | (simp [one1] at h1v; done) | simp [Sem.run, hcell, hfz]
      rw [this]; exact hrun
    · have hb0 : But p.block w (w.setCell (p.add i) v) := ⟨rfl, rfl, rfl, by rw [hsz]; exact Nat.le_refl _, fun x hx hn => by
        rw [hadd]; simp only [World.setCell, Array.getElem?_modify]
        rw [if_neg (fun e => hn e.symm)]⟩
      exact But.trans hb0 hbut
    · rw [hall j]
      simp only [List.length_cons]
      by_cases e : j = p.off + i
      · subst e
        rw [if_neg (by omega), if_pos (by omega), Array.getElem?_setIfInBounds]
        simp [hlt]
      · by_cases e2 : p.off + (i + 1) ≤ j ∧ j < p.off + (i + 1) + l.length
        · rw [if_pos e2, if_pos (by omega), show j - (p.off + i) = (j - (p.off + (i + 1))) + 1 from by omega, List.getElem?_cons_succ]
        · rw [if_neg e2, if_neg (by omega), Array.getElem?_setIfInBounds, if_neg (by omega)]

theorem run_loadCellsFrom (P : Program) (p : Addr) (hsp : p.spot = none) : ∀ (l : List Value) (i : Nat) (w : World) (acc : Array Value), (∀ j v, l[j]? = some v → w.cell? ⟨p.block, p.off + i + j, none⟩ = some v) →
    (loadCellsFrom p i l.length acc).run P w = .ok (acc ++ l.toArray) w := by
  intro l
  induction l with
  | nil => intro i w acc _; simp [loadCellsFrom, pure]
  | cons v l ih =>
    intro i w acc h
    have hadd : p.add i = ⟨p.block, p.off + i, none⟩ := by
      unfold Addr.add
      cases p with
      | mk b o s => cases hsp; by_cases e : i = 0 <;> simp [e]
    have h0 : w.cell? (p.add i) = some v := by rw [hadd]; simpa using h 0 v rfl
    show (Sem.bind (load (p.add i)) fun v => loadCellsFrom p (i + 1) l.length (acc.push v)).run P w = _
    unfold load
    simp only [Sem.bind, Sem.run, h0]
    rw [ih (i + 1) w (acc.push v) (fun j u hj => by
      have := h (j + 1) u (by simpa using hj)
      rwa [show p.off + (i + 1) + j = p.off + i + (j + 1) from by omega])]
    simp

theorem run_loadCells (P : Program) (p : Addr) (hsp : p.spot = none) (l : List Value) (n : Nat) (hn : l.length = n) (w : World) (h : ∀ j v, l[j]? = some v → w.cell? ⟨p.block, p.off + j, none⟩ = some v) :
    (loadCells p n).run P w = .ok l.toArray w := by
  subst hn
  unfold loadCells
  rw [run_loadCellsFrom P p hsp l 0 w #[] (by simpa using h)]
  simp
end Go.Exe
