/- A part of an executor of the model over abstract values, and what it tells of the calls. -/
import Derived.Test.YtbaaogkpkgffdaaGreatDoorX16m
namespace Go.Exe
open Go
set_option linter.unusedSectionVars false
variable [Env]

section
variable (tt : TT)

/-! ### built-in functions -/
noncomputable def a1 (l : AV) (k : AV → R1) : R1 := onCons (.fail 50) (fun a r => onNil (.fail 50) (k a) r) l
noncomputable def a2 (l : AV) (k : AV → AV → R1) : R1 := onCons (.fail 50) (fun a r => onCons (.fail 50) (fun b r => onNil (.fail 50) (k a b) r) r) l
noncomputable def ty1 (l : List Nat) (k : Nat → R1) : R1 := List.rec (motive := fun _ => R1) (.fail 51) (fun t _ _ => k t) l
noncomputable def ty2 (l : List Nat) (k : Nat → R1) : R1 := List.rec (motive := fun _ => R1) (.fail 51) (fun t r _ => List.rec (motive := fun _ => R1) (.fail 51) (fun u r2 _ => List.rec (motive := fun _ => R1) (sel (Nat.beq t u) (k t) (.fail 51)) (fun _ _ _ => .fail 51) r2) r) l
noncomputable def minV (x y : AV) (h : Hp) : R1 := onInt (.fail 52) (fun k n => onInt (.fail 52) (fun _ m => .v (.int k (sel (iblt m n) m n)) h) y) x
noncomputable def maxV (x y : AV) (h : Hp) : R1 := onInt (.fail 52) (fun k n => onInt (.fail 52) (fun _ m => .v (.int k (sel (iblt n m) m n)) h) y) x
noncomputable def clearS (i : Pt) (o len : Nat) (h : Hp) (z : AV) : R1 := sel (allOne z) (sel (Nat.beq len 0) (.fail 53) (ob (storeL h i o z) fun h' => .v (.tup .nil) h')) (.fail 53)
noncomputable def clearV (t : Nat) (x : AV) (h : Hp) : R1 := elemOf tt t fun _ te => onSl (onNils (.fail 53) (.v (.tup .nil) h) x) (fun i o len _ es _ => sel (Nat.beq te.size es) (sel (Nat.beq len 0) (.v (.tup .nil) h) (clearS i o len h (repL te.zero len))) (.fail 53)) x
inductive BtK where | append | clear | len | max | min | no
noncomputable def btK (b : Builtin) : BtK := Builtin.rec (motive := fun _ => BtK) .append .no .clear .no .no .no .no .no .len .no .max .min .no .no .no .no .no .no .no .no .no .no .no .no .no .no b
noncomputable def oBt (b : Builtin) (ts : List Nat) (l : AV) (h : Hp) : R1 := BtK.rec (motive := fun _ => R1)
  (ty2 ts fun t => a2 l fun s x => appV tt t s x h) (ty1 ts fun t => a1 l fun x => clearV tt t x h) (ty1 ts fun t => a1 l fun x => lenX tt t x h) (a2 l fun x y => maxV x y h) (a2 l fun x y => minV x y h) (.fail 54) (btK b)
noncomputable def callV (l : AV) (v : AV) : R1 := onFn (.fail 55) (fun f caps => .call f (appL l caps)) v
noncomputable def oCall (c : Call) (fr : Fr) (h : Hp) : R1 := Callee.rec (motive := fun _ => R1) (fun f => callV (mapEv c.args.toList fr) (ev f fr)) (fun _ _ => .fail 56) (fun b => oBt tt b c.argTypes.toList (mapEv c.args.toList fr) h) c.callee
noncomputable def oDef : Fr → Hp → R1 := fun _ _ => .fail 57

/-! ### one operation -/
inductive R0 where | mk (f : Fr → Hp → R1)
/-- an operation, taken apart once -/
noncomputable def compOp (o : Op) : R0 := Op.rec (motive := fun _ => R0)
  (fun a => .mk (oMove a)) (fun a => .mk (oMove a)) (fun a b c => .mk (oPick a b c)) (fun a => .mk ((oAlloc tt) a)) (fun a b => .mk (oBox a b)) (fun a b => .mk ((oBuild tt) a b)) (fun a b c => .mk ((oBuildSlice tt) a b c)) (fun _ _ _ _ => .mk oDef) (fun a b => .mk ((oLoad tt) a b)) (fun a b c => .mk ((oStore tt) a b c)) (fun _ => .mk oDef) (fun _ => .mk oDef) (fun a => .mk (oNil a)) (fun a b c d e => .mk ((oBin tt) a b c d e)) (fun a b c => .mk (oUn a b c)) (fun a b c => .mk ((oConv tt) a b c)) (fun _ _ => .mk oDef) (fun _ _ => .mk oDef) (fun a b c => .mk (oMkFn a b c)) (fun a b => .mk (oMM a b)) (fun _ _ => .mk oDef) (fun a b c => .mk ((oMkSl tt) a b c)) (fun a b c d e => .mk ((oSlice tt) a b c d e)) (fun a b c => .mk ((oFA tt) a b c)) (fun a b c => .mk ((oField tt) a b c)) (fun a b c => .mk ((oIA tt) a b c)) (fun a b c => .mk ((oIX tt) a b c)) (fun a b c e => .mk ((oLk tt) a b c e)) (fun a b c e => .mk ((oMU tt) a b c e)) (fun _ _ _ => .mk oDef) (fun _ _ _ _ => .mk oDef) (fun a b => .mk ((oRangeM tt) a b)) (fun a b => .mk (oNextM a b)) (fun a => .mk (oEntry a)) (fun _ _ _ _ => .mk oDef) (fun a b => .mk (oExt a b)) (fun a => .mk ((oCall tt) a)) (fun _ => .mk oDef) (fun _ => .mk oDef) (fun _ => .mk oDef) (fun _ _ => .mk oDef) (fun _ _ _ => .mk oDef) (fun _ _ => .mk oDef) o
noncomputable def stepOp0 (o : Op) (fr : Fr) (h : Hp) : R1 := R0.rec (motive := fun _ => R1) (fun f => f fr h) (compOp tt o)
/-- where an operation fails, what is known of it by itself -/
noncomputable def factR (F : FK → AV → Option AV) (o : Op) (fr : Fr) (h : Hp) (n : Nat) : R1 := Option.rec (.fail n) (fun x => .v x h) (F (fk o) (mapEv o.operands.toList fr))
noncomputable def orF (F : FK → AV → Option AV) (o : Op) (fr : Fr) (h : Hp) (r : R1) : R1 := R1.rec (motive := fun _ => R1) (factR F o fr h) .v .call (fun a b _ _ => .or a b) r
noncomputable def stepOp (o : Op) (fr : Fr) (h : Hp) : R1 := orF tt.F o fr h (stepOp0 tt o fr h)

variable {tt} {P : Program} {o : Oper} {act : Act} {φ : PM} {fr : Fr} {h : Hp} {w : World}

theorem a1_elim {C : R1 → Prop} {l : AV} {k : AV → R1} {vs : List Value} (hl : VL φ l vs) (hd : ∀ n, C (.fail n)) (hk : ∀ a v, VR φ a v → vs = [v] → C (k a)) : C (a1 l k) := by
  unfold a1
  refine onCons_elim (hd _) fun a r e => onNil_elim (hd _) fun e2 => ?_
  subst e; subst e2
  obtain ⟨v, vs', rfl, h1, h2⟩ := VL_cons_inv hl
  obtain rfl := VL_nil_inv h2
  exact hk a v h1 rfl
theorem a2_elim {C : R1 → Prop} {l : AV} {k : AV → AV → R1} {vs : List Value} (hl : VL φ l vs) (hd : ∀ n, C (.fail n)) (hk : ∀ a b u v, VR φ a u → VR φ b v → vs = [u, v] → C (k a b)) : C (a2 l k) := by
  unfold a2
  refine onCons_elim (hd _) fun a r e => onCons_elim (hd _) fun b r2 e1 => onNil_elim (hd _) fun e2 => ?_
  subst e; subst e1; subst e2
  obtain ⟨u, vs', rfl, h1, h2⟩ := VL_cons_inv hl
  obtain ⟨v, vs', rfl, h3, h4⟩ := VL_cons_inv h2
  obtain rfl := VL_nil_inv h4
  exact hk a b u v h1 h3 rfl
theorem ty1_elim {C : R1 → Prop} {l : List Nat} {k : Nat → R1} (hd : ∀ n, C (.fail n)) (hk : ∀ t r, l = t :: r → C (k t)) : C (ty1 l k) := by
  cases l with
  | nil => exact hd _
  | cons t r => exact hk t r rfl
theorem ty2_elim {C : R1 → Prop} {l : List Nat} {k : Nat → R1} (hd : ∀ n, C (.fail n)) (hk : ∀ t, l = [t, t] → C (k t)) : C (ty2 l k) := by
  rcases l with _ | ⟨t, _ | ⟨u, _ | ⟨v, r⟩⟩⟩
  · exact hd _
  · exact hd _
  · show C (sel (Nat.beq t u) (k t) (.fail 51))
    refine sel_elim (fun h => ?_) fun _ => hd _
    have := Nat.eq_of_beq_eq_true h
    exact hk t (by rw [this])
  · exact hd _

theorem clearV_sound (ht : TTok P tt) (kw : WR φ h w) {t tyr : Nat} {x : AV} {v : Value} (hx : VR φ x v) {ts : Array TypeId} (h0 : ts[0]? = some t) : SoundV P (Builtin.clear_ ts tyr #[v]) φ h w (clearV tt t x h) := by
  unfold clearV
  refine elemOf_elim ht (fun _ => trivial) fun e te hu hte => onSl_elim (onNils_elim trivial fun ex => ?_) fun i off len cap es op ex => sel_elim (fun hes => sel_elim (fun hl => ?_) fun hl => ?_) fun _ => trivial
  · subst ex
    obtain rfl : v = .slice none 0 0 := hx
    exact SoundV.mk (v := .tuple #[]) (w' := w) (by simp [Builtin.clear_, h0, run_underlying hu]) ⟨#[], rfl, VL.nil _⟩ (Stp.refl kw)
  · subst ex
    obtain ⟨p, c, hp, rfl, _⟩ := hx
    obtain rfl := Nat.eq_of_beq_eq_true hl
    exact SoundV.mk (v := .tuple #[]) (w' := w) (by simp [Builtin.clear_, h0, run_underlying hu]) ⟨#[], rfl, VL.nil _⟩ (Stp.refl kw)
  · subst ex
    obtain ⟨p, c, hp, rfl, _⟩ := hx
    unfold clearS
    refine sel_elim (fun h1 => sel_elim (fun _ => trivial) fun hl => ob_elim trivial fun h' hh => ?_) fun _ => trivial
    obtain ⟨inf, z, hi, hsz, _, hz, _, hzl, hzs⟩ := hte.info
    have hv := VL_rep (hzl φ) len
    obtain ⟨w', hrun, hst⟩ := storeL_sound (P := P) kw hv (allOne_sound hv h1) hh hp
    refine SoundV.mk (v := .tuple #[]) (w' := w') ?_ ⟨#[], rfl, VL.nil _⟩ hst
    have hl := beq_ne hl
    obtain ⟨m, rfl⟩ : ∃ m, len = m + 1 := ⟨len - 1, by omega⟩
    have hzr : (zeroValue e).run P w = .ok z w := by simp [zeroValue, typeInfo, hi, hz]
    have : (Builtin.zeroCells z.cells (m + 1)).toList = ((Array.range ((m + 1) * z.cells.size)).map (z.cells[· % z.cells.size]!)).toList := rfl
    simp [Builtin.clear_, h0, run_underlying hu, hzr]
    have e2 : List.map (fun x => z.cells[x % z.cells.size]!) (List.range ((m + 1) * z.cells.size)) = ((Array.range ((m + 1) * z.cells.size)).map (z.cells[· % z.cells.size]!)).toList := by simp
    rw [e2] at *
    rw [Builtin.zeroCells, hrun]
    rfl

theorem minV_sound (kw : WR φ h w) {x y : AV} {u v : Value} (hx : VR φ x u) (hy : VR φ y v) (ts : Array TypeId) (t : TypeId) : SoundV P (Builtin.min_ ts t #[u, v]) φ h w (minV x y h) := by
  unfold minV
  refine onInt_elim trivial fun k n e1 => onInt_elim trivial fun k' m e2 => ?_
  subst e1; subst e2
  obtain rfl : u = .int k n := hx
  obtain rfl : v = .int k' m := hy
  refine SoundV.mk (v := .int k (if m < n then m else n)) (w' := w) (by simp [Builtin.min_, Builtin.min2]) ?_ (Stp.refl kw)
  show Value.int k _ = Value.int k (sel (iblt m n) m n)
  rw [sel_ite, iblt_iff]; simp
theorem maxV_sound (kw : WR φ h w) {x y : AV} {u v : Value} (hx : VR φ x u) (hy : VR φ y v) (ts : Array TypeId) (t : TypeId) : SoundV P (Builtin.max_ ts t #[u, v]) φ h w (maxV x y h) := by
  unfold maxV
  refine onInt_elim trivial fun k n e1 => onInt_elim trivial fun k' m e2 => ?_
  subst e1; subst e2
  obtain rfl : u = .int k n := hx
  obtain rfl : v = .int k' m := hy
  refine SoundV.mk (v := .int k (if m > n then m else n)) (w' := w) (by simp [Builtin.max_, Builtin.max2]) ?_ (Stp.refl kw)
  show Value.int k _ = Value.int k (sel (iblt n m) m n)
  rw [sel_ite, iblt_iff]; simp

theorem oBt_sound (ht : TTok P tt) (kf : FR φ fr act) (kw : WR φ h w) {c : Call} {b : Builtin} (ho : o.op = .call c) (hc : c.callee = .builtin b) : Sound1 P o act φ h w (oBt tt b c.argTypes.toList (mapEv c.args.toList fr) h) := by
  have hargs : VL φ (mapEv c.args.toList fr) (c.args.map act.eval).toList := by
    have := mapEv_sound kf c.args.toList
    simpa using this
  have hexec : execOp act.eval o = (do let d ← resolve act.eval c o.type; invoke d.target d.args) := by simp only [execOp, ho]
  have key : ∀ (r : R1) (s : Sem Value) (_ : ∀ cs, builtin b c.argTypes o.type cs (c.args.map act.eval) = (do pure (.value (← s)))), SoundV P s φ h w r → Sound1 P o act φ h w r := by
    intro r s hb k
    refine k.sound ?_
    rw [hexec]
    simp only [resolve, hc]
    show (Sem.bind (Sem.pure _) _ : Sem Next) = _
    simp only [Sem.bind, invoke, hb]
  cases b with
  | append =>
    show Sound1 P o act φ h w (ty2 _ _)
    refine ty2_elim (fun _ => trivial) fun t hts => a2_elim hargs (fun _ => trivial) fun a b u v h1 h2 hvs => ?_
    refine key _ _ (fun cs => rfl) ?_
    rw [show c.argTypes = #[t, t] from by apply Array.ext'; simpa using hts, show c.args.map act.eval = #[u, v] from by apply Array.ext'; simpa using hvs]
    exact appV_sound ht kw h1 h2
  | clear =>
    show Sound1 P o act φ h w (ty1 _ _)
    refine ty1_elim (fun _ => trivial) fun t r hts => a1_elim hargs (fun _ => trivial) fun a v h1 hvs => ?_
    refine key _ _ (fun cs => rfl) ?_
    rw [show c.args.map act.eval = #[v] from by apply Array.ext'; simpa using hvs]
    exact clearV_sound ht kw h1 (by rw [← Array.getElem?_toList, hts]; rfl)
  | len =>
    show Sound1 P o act φ h w (ty1 _ _)
    refine ty1_elim (fun _ => trivial) fun t r hts => a1_elim hargs (fun _ => trivial) fun a v h1 hvs => ?_
    refine key _ _ (fun cs => rfl) ?_
    rw [show c.args.map act.eval = #[v] from by apply Array.ext'; simpa using hvs]
    exact lenX_sound ht kw h1 (by rw [← Array.getElem?_toList, hts]; rfl) o.type
  | max =>
    show Sound1 P o act φ h w (a2 _ _)
    refine a2_elim hargs (fun _ => trivial) fun a b u v h1 h2 hvs => ?_
    refine key _ _ (fun cs => rfl) ?_
    rw [show c.args.map act.eval = #[u, v] from by apply Array.ext'; simpa using hvs]
    exact maxV_sound kw h1 h2 _ _
  | min =>
    show Sound1 P o act φ h w (a2 _ _)
    refine a2_elim hargs (fun _ => trivial) fun a b u v h1 h2 hvs => ?_
    refine key _ _ (fun cs => rfl) ?_
    rw [show c.args.map act.eval = #[u, v] from by apply Array.ext'; simpa using hvs]
    exact minV_sound kw h1 h2 _ _
  | _ => trivial

theorem oCall_sound (ht : TTok P tt) (kf : FR φ fr act) (kw : WR φ h w) {c : Call} (ho : o.op = .call c) : Sound1 P o act φ h w (oCall tt c fr h) := by
  unfold oCall
  cases hc : c.callee with
  | builtin b => exact oBt_sound ht kf kw ho hc
  | invoke => trivial
  | value f =>
    show Sound1 P o act φ h w (callV (mapEv c.args.toList fr) (ev f fr))
    have hf := ev_sound kf f
    unfold callV
    refine onFn_elim trivial fun g caps e => ?_
    rw [e] at hf
    obtain ⟨vs, hv, hcaps⟩ := hf
    rintro ⟨fn, body, h1, h2, h3⟩
    refine ⟨c.args.map act.eval ++ vs, ?_, ?_⟩
    · have h2' : ¬ fn.name = "runtime.NumGoroutine" := by simpa using h2
      simp [execOp, ho, resolve, hc, hv, Deferred.ofValue, invoke, callFunc, h1, h2', h3]
    · have := mapEv_sound kf c.args.toList
      have := this.app (show VL φ caps vs.toList from hcaps)
      simpa using this

theorem stepOp0_sound (ht : TTok P tt) (kf : FR φ fr act) (kw : WR φ h w) : Sound1 P o act φ h w (stepOp0 tt o.op fr h) := by
  cases ho : o.op with
  | move x => exact (oMove_sound kf (.inl ho)).sound kw
  | assign x => exact (oMove_sound kf (.inr ho)).sound kw
  | pick c a b => exact (oPick_sound kf ho).sound kw
  | alloc e => exact oAlloc_sound (fr := fr) ht kw ho
  | box e x => exact oBox_sound kf kw ho
  | build t ps => exact (oBuild_sound ht kf ho).sound kw
  | buildSlice t n ps => exact oBuildSlice_sound ht kf kw ho
  | load t a => exact (oLoad_sound ht kf kw ho).sound kw
  | store t a v => exact oStore_sound ht kf kw ho
  | nilCheck x => exact (oNil_sound kf ho).sound kw
  | binOp op t x y u => exact (oBin_sound ht kf kw ho).sound kw
  | unOp op t x => exact (oUn_sound kf ho).sound kw
  | convert s d x => exact oConv_sound ht kf kw ho
  | makeFunc f a b => exact (oMkFn_sound kf ho).sound kw
  | makeSlice t l c => exact oMkSl_sound ht kf kw ho
  | makeMap t r => exact oMM_sound (fr := fr) kw ho
  | lookup t x i b => exact (oLk_sound ht kf kw ho).sound kw
  | mapUpdate t m k v => exact oMU_sound ht kf kw ho
  | slice t x lo hi mx => exact (oSlice_sound ht kf ho).sound kw
  | fieldAddr t x f => exact (oFA_sound ht kf ho).sound kw
  | field t x f => exact (oField_sound ht kf ho).sound kw
  | indexAddr t x i => exact (oIA_sound ht kf ho).sound kw
  | index t x i => exact (oIX_sound ht kf ho).sound kw
  | range t x => exact oRangeM_sound ht kf kw ho
  | next it s => exact oNextM_sound kf kw ho
  | entry it => exact (oEntry_sound kf kw ho).sound kw
  | extract x i => exact (oExt_sound kf ho).sound kw
  | call c => exact oCall_sound ht kf kw ho
  | _ => trivial

theorem orF_sound (ht : TTok P tt) (kf : FR φ fr act) {r : R1} {C : R1 → Prop} (hr : C r) (hf : ∀ a, fk o.op ≠ .none → SoundP P o act φ h (.v a h) → C (.v a h)) : C (orF tt.F o.op fr h r) := by
  cases r with
  | v a h' => exact hr
  | call f args => exact hr
  | or a b => exact hr
  | fail n =>
    show C (Option.rec (motive := fun _ => R1) (.fail n) (fun x => .v x h) (tt.F (fk o.op) (mapEv o.op.operands.toList fr)))
    cases e : tt.F (fk o.op) (mapEv o.op.operands.toList fr) with
    | none => exact hr
    | some x =>
      obtain ⟨h0, v, hv, hrun⟩ := ht.fx o φ act _ x (mapEv_sound kf _) e
      exact hf x h0 ⟨rfl, v, hv, hrun⟩
theorem stepOp_sound (ht : TTok P tt) (kf : FR φ fr act) (kw : WR φ h w) : Sound1 P o act φ h w (stepOp tt o.op fr h) :=
  orF_sound (C := fun r => Sound1 P o act φ h w r) ht kf (stepOp0_sound ht kf kw) fun _ _ s => s.sound kw

/-! ### operations that look at no world -/
theorem pureV {s : Sem Value} {a : AV} {v : Value} (e : ∀ w, s.run P w = .ok v w) (hv : VR φ a v) (he : execOp act.eval o = do pure (Next.value (← s))) : SoundP P o act φ h (.v a h) :=
  SoundP.value (fun w => by rw [he]; exact run_value (e w)) hv

noncomputable def pureBt (b : Builtin) : Bool := Builtin.rec (motive := fun _ => Bool) false false false false false false false false true false true true false false false false false false false false false false false false false false b
/-- is it surely no map's type? -/
noncomputable def noMap (tt : TT) (l : List Nat) : Bool := List.rec (motive := fun _ => Bool) false (fun t _ _ => Option.rec (motive := fun _ => Bool) true (fun te => tiMap true (fun _ _ => false) te.ti) (ty tt t)) l
noncomputable def pureCal (tt : TT) (c : Call) : Bool := Callee.rec (motive := fun _ => Bool) (fun _ => false) (fun _ _ => false) (fun b => sel (pureBt b) (noMap tt c.argTypes.toList) false) c.callee

theorem oCall_pure (ht : TTok P tt) (kf : FR φ fr act) {c : Call} (ho : o.op = .call c) (hp : pureCal tt c = true) : SoundP P o act φ h (oCall tt c fr h) := by
  unfold oCall
  unfold pureCal at hp
  cases hc : c.callee with
  | invoke => rw [hc] at hp; cases hp
  | value f => rw [hc] at hp; cases hp
  | builtin b =>
    rw [hc] at hp
    replace hp : sel (pureBt b) (noMap tt c.argTypes.toList) false = true := hp
    obtain ⟨hp, hnm⟩ : pureBt b = true ∧ noMap tt c.argTypes.toList = true := by
      cases h1 : pureBt b <;> rw [h1] at hp
      · cases hp
      · exact ⟨rfl, hp⟩
    have hargs : VL φ (mapEv c.args.toList fr) (c.args.map act.eval).toList := by
      have := mapEv_sound kf c.args.toList
      simpa using this
    have hexec : execOp act.eval o = (do let d ← resolve act.eval c o.type; invoke d.target d.args) := by simp only [execOp, ho]
    have key : ∀ (a : AV) (v : Value) (s : Sem Value) (_ : ∀ cs, builtin b c.argTypes o.type cs (c.args.map act.eval) = (do pure (.value (← s)))), (∀ w, s.run P w = .ok v w) → VR φ a v → SoundP P o act φ h (.v a h) := by
      intro a v s hb e hv
      refine pureV e hv ?_
      rw [hexec]
      simp only [resolve, hc]
      show (Sem.bind (Sem.pure _) _ : Sem Next) = _
      simp only [Sem.bind, invoke, hb]
    show SoundP P o act φ h (oBt tt b c.argTypes.toList (mapEv c.args.toList fr) h)
    cases b <;> first | (cases hp; done) | skip
    case len =>
      show SoundP P o act φ h (ty1 _ _)
      refine ty1_elim (fun _ => trivial) fun t r hts => a1_elim hargs (fun _ => trivial) fun a v h1 hvs => ?_
      unfold lenX
      refine onMap_elim ?_ fun i e => ?_
      rotate_left
      · rw [hts] at hnm
        replace hnm : (Option.rec (motive := fun _ => Bool) true (fun te => tiMap true (fun _ _ => false) te.ti) (ty tt t)) = true := hnm
        unfold mapT
        refine ob_elim trivial fun te hte => ?_
        rw [hte] at hnm
        replace hnm : tiMap true (fun _ _ => false) te.ti = true := hnm
        cases hti : te.ti <;> first | exact trivial | (rw [hti] at hnm; cases hnm)
      refine lenV_run (C := fun r => SoundP P o act φ h r) (tyr := o.type) ht h1 (fun _ => trivial) fun n hrun => ?_
      refine key _ (.int .i64 n) (Builtin.len_ c.argTypes o.type #[v]) (fun cs => ?_) (hrun c.argTypes (by rw [← Array.getElem?_toList, hts]; rfl)) rfl
      rw [show c.args.map act.eval = #[v] from by apply Array.ext'; simpa using hvs]
      rfl
    case max =>
      show SoundP P o act φ h (a2 _ _)
      refine a2_elim hargs (fun _ => trivial) fun a b u v h1 h2 hvs => ?_
      unfold maxV
      refine onInt_elim trivial fun k n e1 => onInt_elim trivial fun k' m e2 => ?_
      subst e1; subst e2
      obtain rfl : u = .int k n := h1
      obtain rfl : v = .int k' m := h2
      refine key _ (.int k (if m > n then m else n)) (Builtin.max_ c.argTypes o.type #[.int k n, .int k' m]) (fun cs => ?_) (fun w => by simp [Builtin.max_, Builtin.max2]) ?_
      · rw [show c.args.map act.eval = #[.int k n, .int k' m] from by apply Array.ext'; simpa using hvs]; rfl
      · show Value.int k _ = Value.int k (sel (iblt n m) m n)
        rw [sel_ite, iblt_iff]; simp
    case min =>
      show SoundP P o act φ h (a2 _ _)
      refine a2_elim hargs (fun _ => trivial) fun a b u v h1 h2 hvs => ?_
      unfold minV
      refine onInt_elim trivial fun k n e1 => onInt_elim trivial fun k' m e2 => ?_
      subst e1; subst e2
      obtain rfl : u = .int k n := h1
      obtain rfl : v = .int k' m := h2
      refine key _ (.int k (if m < n then m else n)) (Builtin.min_ c.argTypes o.type #[.int k n, .int k' m]) (fun cs => ?_) (fun w => by simp [Builtin.min_, Builtin.min2]) ?_
      · rw [show c.args.map act.eval = #[.int k n, .int k' m] from by apply Array.ext'; simpa using hvs]; rfl
      · show Value.int k _ = Value.int k (sel (iblt m n) m n)
        rw [sel_ite, iblt_iff]; simp

noncomputable def isIntT (x : TI) : Bool := TI.rec (motive := fun _ => Bool) (fun _ => true) false false (fun _ => false) (fun _ => false) (fun _ _ => false) (fun _ _ => false) (fun _ => false) false false x
noncomputable def intT (tt : TT) (t : Nat) : Bool := Option.rec false (fun te => isIntT te.ti) (ty tt t)

theorem oConv_pure (ht : TTok P tt) (kf : FR φ fr act) {s d : Nat} {x : Operand} (ho : o.op = .convert s d x) (hp : intT tt d = true) : SoundP P o act φ h (oConv tt s d x fr h) := by
  have hx := ev_sound kf x
  unfold oConv
  refine ob_elim trivial fun ts hts => ob_elim trivial fun te hte => ?_
  obtain ⟨ds, hds, _⟩ := (ht s ts hts).und
  obtain ⟨dd, hdd, hti, _⟩ := (ht d te hte).und
  unfold intT at hp
  rw [show ty tt d = some te from hte] at hp
  replace hp : isIntT te.ti = true := hp
  cases hc : te.ti <;> rw [hc] at hp <;> first | (cases hp; done) | skip
  rename_i k
  rw [hc] at hti
  show SoundP P o act φ h (cvInt k (ev x fr) h)
  unfold cvInt
  refine onInt_elim trivial fun k' n e => ?_
  rw [e] at hx
  have hx : act.eval x = .int k' n := hx
  cases dd <;> simp [TIok] at hti
  subst hti
  refine pureV (v := .int k (k.wrap n)) (s := convert s d (act.eval x)) (fun w => ?_) (by show _ = Value.int k (iwrap k n); rw [iwrap_eq]) (by simp only [execOp, ho])
  rw [hx]
  cases ds <;> simp [convert, run_underlying hds, run_underlying hdd, Conv.intToInt]

noncomputable def pureOp (tt : TT) (o : Op) : Bool := Op.rec (motive := fun _ => Bool)
  (fun _ => true) (fun _ => true) (fun _ _ _ => true) (fun _ => false) (fun _ _ => false) (fun _ _ => true) (fun _ _ _ => false) (fun _ _ _ _ => false) (fun _ _ => false) (fun _ _ _ => false) (fun _ => false) (fun _ => false) (fun _ => true) (fun op t _ _ _ => pureBin tt op t) (fun _ _ _ => true) (fun _ d _ => intT tt d)
  (fun _ _ => false) (fun _ _ => false) (fun _ _ _ => true) (fun _ _ => false) (fun _ _ => false) (fun _ _ _ => false) (fun _ _ _ _ _ => true) (fun _ _ _ => true) (fun _ _ _ => true) (fun _ _ _ => true) (fun _ _ _ => true) (fun _ _ _ _ => false) (fun _ _ _ _ => false) (fun _ _ _ => false) (fun _ _ _ _ => false)
  (fun _ _ => false) (fun _ _ => false) (fun _ => false) (fun _ _ _ _ => false) (fun _ _ => true) (fun c => pureCal tt c) (fun _ => false) (fun _ => false) (fun _ => false) (fun _ _ => false) (fun _ _ _ => false) (fun _ _ => false) o
/-- operations that read at most -/
noncomputable def readOp (tt : TT) (o : Op) : Bool := sel (pureOp tt o) true (Op.rec (motive := fun _ => Bool)
  (fun _ => false) (fun _ => false) (fun _ _ _ => false) (fun _ => false) (fun _ _ => false) (fun _ _ => false) (fun _ _ _ => false) (fun _ _ _ _ => false) (fun _ _ => true) (fun _ _ _ => false) (fun _ => false) (fun _ => false) (fun _ => false) (fun _ _ _ _ _ => true) (fun _ _ _ => false) (fun _ _ _ => false) (fun _ _ => false) (fun _ _ => false) (fun _ _ _ => false) (fun _ _ => false) (fun _ _ => false) (fun _ _ _ => false) (fun _ _ _ _ _ => false) (fun _ _ _ => false) (fun _ _ _ => false) (fun _ _ _ => false) (fun _ _ _ => false) (fun _ _ _ _ => true) (fun _ _ _ _ => false) (fun _ _ _ => false) (fun _ _ _ _ => false) (fun _ _ => false) (fun _ _ => false) (fun _ => false) (fun _ _ _ _ => false) (fun _ _ => false) (fun _ => false) (fun _ => false) (fun _ => false) (fun _ => false) (fun _ _ => false) (fun _ _ _ => false) (fun _ _ => false) o)

theorem pureOp0_sound (ht : TTok P tt) (kf : FR φ fr act) (kw : WR φ h w) (hp : pureOp tt o.op = true) : SoundP P o act φ h (stepOp0 tt o.op fr h) := by
  cases ho : o.op <;> rw [ho] at hp <;> first | (cases hp; done) | skip
  case move x => exact oMove_sound kf (.inl ho)
  case assign x => exact oMove_sound kf (.inr ho)
  case pick c a b => exact oPick_sound kf ho
  case build t ps => exact oBuild_sound ht kf ho
  case nilCheck x => exact oNil_sound kf ho
  case binOp op t x y u => exact oBin_pure ht kf kw ho hp
  case unOp op t x => exact oUn_sound kf ho
  case convert s d x => exact oConv_pure ht kf ho hp
  case makeFunc f a b => exact oMkFn_sound kf ho
  case slice t x lo hi mx => exact oSlice_sound ht kf ho
  case fieldAddr t x f => exact oFA_sound ht kf ho
  case field t x f => exact oField_sound ht kf ho
  case indexAddr t x i => exact oIA_sound ht kf ho
  case index t x i => exact oIX_sound ht kf ho
  case extract x i => exact oExt_sound kf ho
  case call c => exact oCall_pure ht kf ho hp

theorem pureOp_sound (ht : TTok P tt) (kf : FR φ fr act) (kw : WR φ h w) (hp : pureOp tt o.op = true) : SoundP P o act φ h (stepOp tt o.op fr h) :=
  orF_sound (C := fun r => SoundP P o act φ h r) ht kf (pureOp0_sound ht kf kw hp) fun _ _ s => s

theorem readOp0_sound (ht : TTok P tt) (kf : FR φ fr act) (kw : WR φ h w) (hp : readOp tt o.op = true) : SoundR P o act φ h w (stepOp0 tt o.op fr h) := by
  cases hq : pureOp tt o.op with
  | true => exact (pureOp0_sound ht kf kw hq).read w
  | false =>
    unfold readOp at hp
    rw [hq] at hp
    cases ho : o.op <;> rw [ho] at hp <;> first | (cases hp; done) | skip
    case load t a => exact oLoad_sound ht kf kw ho
    case lookup t x i b => exact oLk_sound ht kf kw ho
    case binOp op t x y u => exact oBin_sound ht kf kw ho

theorem readOp_sound (ht : TTok P tt) (kf : FR φ fr act) (kw : WR φ h w) (hp : readOp tt o.op = true) : SoundR P o act φ h w (stepOp tt o.op fr h) :=
  orF_sound (C := fun r => SoundR P o act φ h w r) ht kf (readOp0_sound ht kf kw hp) fun _ _ s => s.read w

/-! ### operations that make a row of cells -/
/-- what such an operation does, in every world -/
def RunA (P : Program) (o : Oper) (act : Act) (cells : Array Value) (T : TypeId) (V : Nat → Value) : Prop :=
  ∀ w : World, (execOp act.eval o).run P w = .ok (.value (V w.heap.size)) { w with heap := w.heap.push (.cells cells T) }
def SoundA (P : Program) (o : Oper) (act : Act) (φ : PM) (h : Hp) : R1 → Prop
  | .fail _ => True
  | .v a h' => ∃ (x : AV) (mk : Pt → AV) (cells : Array Value) (T : TypeId) (V : Nat → Value), a = mk h.n ∧ h' = newBlk h x false false ∧ VL φ x cells.toList ∧ RunA P o act cells T V ∧
      ∀ (φ' : PM) (n : Pt) (blk : Nat), φ' n = some ⟨blk, 0, cells.size⟩ → VR φ' (mk n) (V blk)
  | .call _ _ => False
  | .or _ _ => False

theorem newPtr_A {x : AV} {c : Array Value} (hx : VL φ x c.toList) {T : TypeId}
    (e : ∀ w, (execOp act.eval o).run P w = .ok (.value (.pointer (some ⟨w.heap.size, 0, none⟩))) { w with heap := w.heap.push (.cells c T) }) : SoundA P o act φ h (newPtr h x) :=
  ⟨x, fun n => .ptr n 0, c, T, fun b => .pointer (some ⟨b, 0, none⟩), rfl, rfl, hx, e, fun _ _ _ hn => ⟨_, hn, rfl⟩⟩

theorem oAlloc_A (ht : TTok P tt) {e : Nat} (ho : o.op = .alloc e) : SoundA P o act φ h (oAlloc tt e fr h) := by
  unfold oAlloc
  refine ob_elim trivial fun te hte => ?_
  obtain ⟨i, z, hi, _, _, hz, _, hzl, _⟩ := (ht e te hte).info
  refine newPtr_A (c := z.cells) (T := e) (hzl φ) fun w => ?_
  simp [execOp, ho, Instr.alloc, zeroValue, typeInfo, hi, hz, newVar, newRow]

theorem oBox_A (kf : FR φ fr act) {e : Nat} {x : Operand} (ho : o.op = .box e x) : SoundA P o act φ h (oBox e x fr h) := by
  unfold oBox
  refine ob_elim trivial fun c hc => ?_
  refine newPtr_A (c := (act.eval x).cells) (T := e) (cellsOf_sound (ev_sound kf x) hc) fun w => ?_
  simp [execOp, ho, Instr.box, newVar, newRow]

theorem oMkSl_A (ht : TTok P tt) (kf : FR φ fr act) {t : Nat} {l c : Operand} (ho : o.op = .makeSlice t l c) : SoundA P o act φ h (oMkSl tt t l c fr h) := by
  have hl := ev_sound kf l
  have hc := ev_sound kf c
  unfold oMkSl
  refine elemOf_elim ht (fun _ => trivial) fun e te hu hte => inNat_elim (fun _ => trivial) fun q1 n en => inNat_elim (fun _ => trivial) fun q2 m em => ?_
  unfold mkIn
  refine sel_elim (fun h1 => sel_elim (fun h2 => sel_elim (fun h3 => ?_) fun _ => trivial) fun _ => trivial) fun _ => trivial
  rw [en] at hl; rw [em] at hc
  have hl : act.eval l = .int q1 (.ofNat n) := hl
  have hc : act.eval c = .int q2 (.ofNat m) := hc
  have h1 : n ≤ m := Nat.le_of_ble_eq_true h1
  have h3 : m * te.size ≤ 16777216 := Nat.le_of_ble_eq_true h3
  obtain ⟨hr1, hr2⟩ := roomOk_inv h2
  obtain ⟨inf, z, hi, hsz, hby, hz, _, hzl, hzs⟩ := hte.info
  have hrun := fun w : World => run_makeSlice (P := P) (w := w) t e inf z hu hi hz q1 q2 (.ofNat n) (.ofNat m) (Int.natCast_nonneg _) (Int.ofNat_le.2 h1) (by show m * inf.size ≤ _; rw [hsz]; exact h3)
    (by show (inf.bytes : Int) * (m : Int) ≤ _; rw [hby, ← Int.natCast_mul, Nat.mul_comm]; omega) (by show (m : Int) ≤ _; omega)
  have hzz : (madeCells z.cells (m * inf.size)).toList = ((Array.range (m * z.cells.size)).map (z.cells[· % z.cells.size]!)).toList := by rw [hsz, ← hzs]; rfl
  have hrep := VL_rep (hzl φ) m
  rw [← hzz] at hrep
  refine ⟨_, fun k => .sl k 0 n m te.size false, madeCells z.cells (m * inf.size), e, fun b => .slice (some ⟨b, 0, none⟩) n m, rfl, rfl, hrep, fun w => ?_, fun φ' k blk hk => ⟨_, m, hk, by simp, Nat.le_refl _, fun _ => rfl, fun h => by cases h⟩⟩
  simp only [execOp, ho, hl, hc]
  exact run_value (hrun w)

theorem oBuildSlice_A (ht : TTok P tt) (kf : FR φ fr act) {t len : Nat} {parts : Array (Nat × Operand)} (ho : o.op = .buildSlice t len parts) : SoundA P o act φ h (oBuildSlice tt t len parts fr h) := by
  unfold oBuildSlice
  refine elemOf_elim ht (fun _ => trivial) fun e te hu hte => sel_elim (fun hs => ob_elim trivial fun cs hcs => ?_) fun _ => trivial
  obtain ⟨i, z, hi, hsz, _, hz, _, hzl, hzs⟩ := hte.info
  have hs : len * te.size ≤ 16777216 := Nat.le_of_ble_eq_true hs
  have hrep := VL_rep (hzl φ) len
  have fin : ∀ (cells : Array Value), VL φ cs cells.toList → (∀ w : World, (Instr.buildSlice t len (parts.map fun (i, x) => (i, act.eval x))).run P w = .ok (.slice (some ⟨w.heap.size, 0, none⟩) len len) { w with heap := w.heap.push (.cells cells e) }) →
      SoundA P o act φ h (.v (.sl h.n 0 len len te.size false) (newBlk h cs false false)) := by
    intro cells hv hrun
    refine ⟨_, fun k => .sl k 0 len len te.size false, cells, e, fun b => .slice (some ⟨b, 0, none⟩) len len, rfl, rfl, hv, fun w => ?_, fun φ' k blk hk => ⟨_, len, hk, by simp, Nat.le_refl _, fun _ => rfl, fun h => by cases h⟩⟩
    simp only [execOp, ho]
    exact run_value (hrun w)
  obtain ⟨c', hc', hx⟩ := putParts_sound kf (pl' := fun j => some (j * i.size, i.size)) (cells := (Array.range (len * z.cells.size)).map (z.cells[· % z.cells.size]!)) (fun i x hx => by rw [hsz]; exact hx) parts.toList hrep hcs
  refine fin c' hx fun w => ?_
  by_cases h0 : len * i.size = 0
  · have hcc : (Array.range (len * z.cells.size)).map (z.cells[· % z.cells.size]!) = #[] := by rw [hzs, ← hsz, h0]; simp
    rw [hcc] at hc'
    simp [Instr.buildSlice, run_underlying hu, sizeOf, typeInfo, hi, h0, newRow]
    rw [show Array.map (fun _ => (default : Value)) (Array.range 0) = #[] from by simp, hc']
    rfl
  · refine run_buildSlice w t e len _ c' i z hu hi hz (by rw [hsz]; omega) h0 ?_
    rw [toList_map_parts, ← hc', hzs, hsz]

noncomputable def allocOp (o : Op) : Bool := Op.rec (motive := fun _ => Bool)
  (fun _ => false) (fun _ => false) (fun _ _ _ => false) (fun _ => true) (fun _ _ => true) (fun _ _ => false) (fun _ _ _ => true) (fun _ _ _ _ => false) (fun _ _ => false) (fun _ _ _ => false) (fun _ => false) (fun _ => false) (fun _ => false) (fun _ _ _ _ _ => false) (fun _ _ _ => false) (fun _ _ _ => false)
  (fun _ _ => false) (fun _ _ => false) (fun _ _ _ => false) (fun _ _ => false) (fun _ _ => false) (fun _ _ _ => true) (fun _ _ _ _ _ => false) (fun _ _ _ => false) (fun _ _ _ => false) (fun _ _ _ => false) (fun _ _ _ => false) (fun _ _ _ _ => false) (fun _ _ _ _ => false) (fun _ _ _ => false) (fun _ _ _ _ => false)
  (fun _ _ => false) (fun _ _ => false) (fun _ => false) (fun _ _ _ _ => false) (fun _ _ => false) (fun _ => false) (fun _ => false) (fun _ => false) (fun _ => false) (fun _ _ => false) (fun _ _ _ => false) (fun _ _ => false) o

theorem allocOp0_sound (ht : TTok P tt) (kf : FR φ fr act) (hp : allocOp o.op = true) : SoundA P o act φ h (stepOp0 tt o.op fr h) := by
  cases ho : o.op <;> rw [ho] at hp <;> first | (cases hp; done) | skip
  case alloc e => exact oAlloc_A (fr := fr) ht ho
  case box e x => exact oBox_A kf ho
  case buildSlice t n ps => exact oBuildSlice_A ht kf ho
  case makeSlice t l c => exact oMkSl_A ht kf ho
theorem allocOp_sound (ht : TTok P tt) (kf : FR φ fr act) (hp : allocOp o.op = true) : SoundA P o act φ h (stepOp tt o.op fr h) :=
  orF_sound (C := fun r => SoundA P o act φ h r) ht kf (allocOp0_sound ht kf hp) fun a hne _ => by
    exfalso
    revert hp hne
    cases o.op <;> intro hp hne <;> first | (cases hp; done) | exact hne rfl
theorem allocOp_read (hp : allocOp o.op = true) : readOp tt o.op = false := by
  cases ho : o.op <;> rw [ho] at hp <;> first | (cases hp; done) | rfl
end
end Go.Exe
