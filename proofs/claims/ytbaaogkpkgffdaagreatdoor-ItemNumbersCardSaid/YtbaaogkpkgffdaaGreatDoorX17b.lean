/- A part of an executor of the model over abstract values, and what it tells of the calls. -/
import Derived.Test.YtbaaogkpkgffdaaGreatDoorX17
namespace Go.Exe
open Go
set_option linter.unusedSectionVars false
variable [Env]

section
variable {P : Program} {ops : Array Oper} {Q : Exit → Act → World → Prop} {md : Region.Mode}

/-- an operation comes up: one that only reads ('ro') is known to leave the very world -/
def wpOpR (P : Program) (ops : Array Oper) (ro : Oper → Bool) (Q : Exit → Act → World → Prop) (i : Nat) (K : Act → World → Prop) (a : Act) (w : World) : Prop :=
  match ops[i]? with
  | none => K a w
  | some o => if ro o = true ∧ Region.wanted o (yielded ops a.tmps) = true then ∃ v, (execOp a.eval o).run P w = .ok (.value v) w ∧ K (a.put o.dst v) w else wpOp P ops Q i K a w
def wpAnyR (P : Program) (md : Region.Mode) (ops : Array Oper) (ro : Oper → Bool) (Q : Exit → Act → World → Prop) : Nat → Array Bool → Act → World → Prop
  | 0, listed, a, w => Region.ready md ops listed = [] ∧ Q .normal a w
  | fuel + 1, listed, a, w => (Region.ready md ops listed = [] → Q .normal a w) ∧ ∀ i ∈ Region.ready md ops listed, wpOpR P ops ro Q i (wpAnyR P md ops ro Q fuel (listed.setIfInBounds i true)) a w

variable {ro : Oper → Bool}
theorem wpOpR_mono {i : Nat} {a : Act} {w : World} {K K' : Act → World → Prop} (h : ∀ a w, K a w → K' a w) (hh : wpOpR P ops ro Q i K a w) : wpOpR P ops ro Q i K' a w := by
  unfold wpOpR at *
  cases ho : ops[i]? with
  | none => simp only [ho] at hh ⊢; exact h _ _ hh
  | some o =>
    simp only [ho] at hh ⊢
    split
    · rename_i hc; rw [if_pos hc] at hh; obtain ⟨v, h1, h2⟩ := hh; exact ⟨v, h1, h _ _ h2⟩
    · rename_i hc; rw [if_neg hc] at hh; exact wpOp_mono h hh
theorem wpOp_of_R {i : Nat} {a : Act} {w : World} {K : Act → World → Prop} (hh : wpOpR P ops ro Q i K a w) : wpOp P ops Q i K a w := by
  unfold wpOpR at hh
  cases ho : ops[i]? with
  | none => simp only [ho] at hh; unfold wpOp; simp only [ho]; exact hh
  | some o =>
    simp only [ho] at hh
    by_cases hc : ro o = true ∧ Region.wanted o (yielded ops a.tmps) = true
    · rw [if_pos hc] at hh
      obtain ⟨v, h1, h2⟩ := hh
      unfold wpOp
      simp only [ho, hc.2, if_true]
      left
      unfold Oper.wp
      rw [h1]
      exact h2
    · rw [if_neg hc] at hh; exact hh
theorem wpAny_of_R : ∀ (fuel : Nat) (listed : Array Bool) (a : Act) (w : World), wpAnyR P md ops ro Q fuel listed a w → wpAny P md ops Q fuel listed a w
  | 0, _, _, _, h => h
  | fuel + 1, _, _, _, h => ⟨h.1, fun i hi => wpOp_mono (fun a' w' h' => wpAny_of_R fuel _ a' w' h') (wpOp_of_R (h.2 i hi))⟩

/-- in the state 'a', in a world of 'W', the operation leaves 'v' and the world -/
def YieldsW (P : Program) (ops : Array Oper) (W : World → Prop) (o : Oper) (v : Value) (a : Act) : Prop :=
  (Region.wanted o (yielded ops a.tmps) = true ∧ ∀ w, W w → (execOp a.eval o).run P w = .ok (.value v) w) ∨ (Region.wanted o (yielded ops a.tmps) = false ∧ v = undef)
theorem YieldsW.of_same {W : World → Prop} {o : Oper} {v : Value} {a a' : Act} (hy : YieldsW P ops W o v a) (he : execOp a'.eval o = execOp a.eval o)
    (hw : Region.wanted o (yielded ops a'.tmps) = Region.wanted o (yielded ops a.tmps)) : YieldsW P ops W o v a' := by
  unfold YieldsW at *
  rw [he, hw]
  exact hy
theorem YieldsW.wpOpR {W : World → Prop} {i : Nat} {o : Oper} {v : Value} {a : Act} (hi : ops[i]? = some o) (hy : YieldsW P ops W o v a)
    {K : Act → World → Prop} {w : World} (hW : W w) (h : K (a.put o.dst v) w) : wpOpR P ops ro Q i K a w := by
  unfold Exe.wpOpR
  simp only [hi]
  rcases hy with ⟨hw, hv⟩ | ⟨hw, rfl⟩
  · split
    · exact ⟨v, hv w hW, h⟩
    · unfold Go.wpOp
      simp only [hi, hw, if_true, Oper.wp, hv w hW, Oper.upon]; exact .inl h
  · rw [if_neg (by simp [hw])]
    unfold Go.wpOp
    simp only [hi, hw, Bool.false_eq_true, if_false]; exact h

theorem wpAnyR_all {rs : List Nat} {fuel : Nat} {listed : Array Bool} {a : Act} {w : World} (hr : Region.ready md ops listed = rs) (hne : rs ≠ [])
    (h : ∀ i ∈ rs, wpOpR P ops ro Q i (wpAnyR P md ops ro Q fuel (listed.setIfInBounds i true)) a w) : wpAnyR P md ops ro Q (fuel + 1) listed a w :=
  ⟨fun h0 => absurd (hr ▸ h0) hne, hr ▸ h⟩

/-! ### who waits for whom -/
inductive Anc (md : Region.Mode) (ops : Array Oper) (i : Nat) : Nat → Prop
  | edge {j : Nat} {o : Oper} {e : Edge} : ops[j]? = some o → e ∈ o.after → Region.binds md e = true → e.on = i → Anc md ops i j
  | step {j : Nat} {o : Oper} {e : Edge} : ops[j]? = some o → e ∈ o.after → Region.binds md e = true → Anc md ops i e.on → Anc md ops i j

/-- what has come up has come up behind what it waits for -/
def DC (md : Region.Mode) (ops : Array Oper) (L : Array Bool) : Prop := ∀ j o, ops[j]? = some o → L.getD j false = true → ∀ e ∈ o.after, Region.binds md e = true → L.getD e.on false = true
theorem DC.anc {L : Array Bool} (hL : DC md ops L) {i j : Nat} (h : Anc md ops i j) : L.getD j false = true → L.getD i false = true := by
  induction h with
  | edge ho he hb e => intro hj; rw [← e]; exact hL _ _ ho hj _ he hb
  | step ho he hb _ ih => intro hj; exact ih (hL _ _ ho hj _ he hb)
theorem DC.ready {L : Array Bool} (hL : DC md ops L) {i j : Nat} (hj : j ∈ Region.ready md ops L) (h : Anc md ops i j) : L.getD i false = true := by
  obtain ⟨_, o, ho, hall⟩ := mem_ready.1 hj
  cases h with
  | edge ho' he hb e => rw [ho] at ho'; cases ho'; rw [← e]; exact hall _ he hb
  | step ho' he hb ha => rw [ho] at ho'; cases ho'; exact hL.anc ha (hall _ he hb)
theorem DC.set {L : Array Bool} (hL : DC md ops L) {j : Nat} (hj : j ∈ Region.ready md ops L) : DC md ops (L.setIfInBounds j true) := by
  intro k o ho hk e he hb
  by_cases hjk : j = k
  · subst hjk
    obtain ⟨_, o', ho', hall⟩ := mem_ready.1 hj
    rw [ho] at ho'; cases ho'
    exact getD_set_true (hall e he hb)
  · rw [getD_set_ne false hjk] at hk
    exact getD_set_true (hL k o ho hk e he hb)
theorem DC.none (n : Nat) : DC md ops (Array.replicate n false) := by
  intro j o _ hj
  simp [Array.getElem?_replicate] at hj
  split at hj <;> simp at hj
theorem unlisted {L : Array Bool} {i : Nat} (h0 : L.getD i true = false) : L.getD i false = false := by
  rcases Nat.lt_or_ge i L.size with h' | h'
  · simp [h'] at h0 ⊢; exact h0
  · simp [Array.getElem?_eq_none h'] at h0

def waits1 (md : Region.Mode) (ops : Array Oper) (i : Nat) (m j : Nat) : Nat := match ops[j]? with
  | none => m
  | some o => if o.after.any (fun e => Region.binds md e && (e.on == i || Nat.testBit m e.on)) then Nat.lor m (Nat.shiftLeft 1 j) else m
def waits (md : Region.Mode) (ops : Array Oper) (i : Nat) : Nat → Nat
  | 0 => 0
  | n + 1 => (List.range ops.size).foldl (waits1 md ops i) (waits md ops i n)
theorem waits1_spec {i m j : Nat} (h : ∀ k, Nat.testBit m k = true → Anc md ops i k) : ∀ k, Nat.testBit (waits1 md ops i m j) k = true → Anc md ops i k := by
  intro k hk
  unfold waits1 at hk
  cases ho : ops[j]? with
  | none => simp only [ho] at hk; exact h k hk
  | some o =>
    simp only [ho] at hk
    split at hk
    · rename_i hany
      have hk' : Nat.testBit (m ||| 1 <<< j) k = true := hk
      rw [Nat.testBit_or, Bool.or_eq_true] at hk'
      rcases hk' with hk' | hk'
      · exact h k hk'
      · rw [Nat.shiftLeft_eq, Nat.one_mul, Nat.testBit_two_pow] at hk'
        have hjk : j = k := by simpa using hk'
        subst hjk
        obtain ⟨e, he, hb⟩ := Array.any_eq_true'.1 hany
        simp only [Bool.and_eq_true, Bool.or_eq_true, beq_iff_eq] at hb
        rcases hb.2 with hon | hon
        · exact .edge ho he hb.1 hon
        · exact .step ho he hb.1 (h _ hon)
    · exact h k hk
theorem waits_spec {i : Nat} : ∀ (n k : Nat), Nat.testBit (waits md ops i n) k = true → Anc md ops i k := by
  intro n
  induction n with
  | zero => intro k h; simp [waits] at h
  | succ n ih =>
    have key : ∀ (l : List Nat) (m : Nat), (∀ k, Nat.testBit m k = true → Anc md ops i k) → ∀ k, Nat.testBit (l.foldl (waits1 md ops i) m) k = true → Anc md ops i k := by
      intro l
      induction l with
      | nil => intro m h; exact h
      | cons j l ihl => intro m h; exact ihl _ (waits1_spec h)
    exact key _ _ ih

/-! ### reads that lag behind -/
theorem eval_same {A B : Act} {x : Operand} (h : ∀ t, x = .tmp t → A.tmps.getD t undef = B.tmps.getD t undef) : A.eval x = B.eval x := by
  cases x <;> first | rfl | exact h _ rfl
theorem execOp_same {o : Oper} (hs : ∀ cs b, o.op ≠ .select cs b) {A B : Act} (h : ∀ t ∈ o.looksAt ops, A.tmps.getD t undef = B.tmps.getD t undef) : execOp A.eval o = execOp B.eval o :=
  execOp_congr o hs fun x hx => eval_same fun t ht => h t (by subst ht; exact List.mem_append_left _ (List.mem_filterMap.2 ⟨.tmp t, by simpa using hx, rfl⟩))
def boolV : Value → Option Bool
  | .bool c => some c
  | _ => none
theorem yielded_eq {tmps : Array Value} {j : Nat} {d : Nat} (ho : (ops[j]?).bind (·.dst) = some d) : yielded ops tmps j = boolV (tmps.getD d undef) := by
  unfold yielded
  rw [ho]
  simp only [Option.bind_some, Array.getD_eq_getD_getElem?]
  cases tmps[d]? with
  | none => rfl
  | some v => cases v <;> rfl
theorem wanted_same {o : Oper} {A B : Act} (h : ∀ t ∈ o.looksAt ops, A.tmps.getD t undef = B.tmps.getD t undef) : Region.wanted o (yielded ops A.tmps) = Region.wanted o (yielded ops B.tmps) := by
  unfold Region.wanted
  cases hg : o.guard with
  | none => rfl
  | some p =>
    obtain ⟨g, want⟩ := p
    have hy : yielded ops A.tmps g = yielded ops B.tmps g := by
      cases hd : (ops[g]?).bind (·.dst) with
      | none => unfold yielded; simp [hd]
      | some d => rw [yielded_eq hd, yielded_eq hd, h d (by simp [Oper.looksAt, hg, hd])]
    simp only [hy]

/-- the pending reads, one behind the other -/
def Fill (P : Program) (ops : Array Oper) (w : World) : List Nat → Act → Act → Prop
  | [], a, b => a = b
  | j :: js, a, b => ∃ o v, ops[j]? = some o ∧ YieldsW P ops (fun w' => w' = w) o v a ∧ Fill P ops w js (a.put o.dst v) b
/-- they may come up so -/
def VP (md : Region.Mode) (ops : Array Oper) : Array Bool → List Nat → Prop
  | _, [] => True
  | L, j :: js => j ∈ Region.ready md ops L ∧ VP md ops (L.setIfInBounds j true) js
def allOf (L : Array Bool) (js : List Nat) : Array Bool := js.foldl (fun L j => L.setIfInBounds j true) L
def later (ops : Array Oper) (o r : Oper) : Bool := match o.dst with
  | some d => !(r.looksAt ops).contains d && r.dst != some d
  | none => true
def Rel (md : Region.Mode) (ops : Array Oper) (r j : Nat) : Prop := ∀ or oj, ops[r]? = some or → ops[j]? = some oj → (Anc md ops r j ∧ later ops oj or = true) ∨ or.apart ops oj = true
def selfOk (ops : Array Oper) (o : Oper) : Bool := match o.dst with
  | some d => !(o.looksAt ops).contains d
  | none => true

theorem allOf_comm (k : Nat) : ∀ (js : List Nat) (L : Array Bool), allOf (L.setIfInBounds k true) js = (allOf L js).setIfInBounds k true := by
  intro js
  induction js with
  | nil => intro L; rfl
  | cons j js ih =>
    intro L
    show allOf ((L.setIfInBounds k true).setIfInBounds j true) js = _
    by_cases e : k = j
    · subst e
      rw [Array.setIfInBounds_setIfInBounds]
      show _ = (allOf (L.setIfInBounds k true) js).setIfInBounds k true
      rw [ih, Array.setIfInBounds_setIfInBounds]
    · rw [Array.setIfInBounds_comm _ _ e, ih]; rfl
theorem allOf_get : ∀ (js : List Nat) (L : Array Bool) (j : Nat) (d : Bool), L.getD j d = true → (allOf L js).getD j d = true := by
  intro js
  induction js with
  | nil => intro L j d h; exact h
  | cons k js ih =>
    intro L j d h
    refine ih _ j d ?_
    by_cases e : k = j
    · subst e
      rcases Nat.lt_or_ge k L.size with h' | h'
      · simp [h']
      · simp [Array.getElem?_eq_none h'] at h ⊢; exact .inr h
    · rw [getD_set_ne d e]; exact h
theorem allOf_other : ∀ (js : List Nat) (L : Array Bool) (j : Nat), j ∉ js → (allOf L js).getD j true = L.getD j true := by
  intro js
  induction js with
  | nil => intro L j h; rfl
  | cons k js ih =>
    intro L j h
    show (allOf (L.setIfInBounds k true) js).getD j true = _
    rw [ih _ j (fun h' => h (List.mem_cons_of_mem _ h')), getD_set_ne true (fun e => h (by rw [e]; exact List.mem_cons_self ..))]
/-- what may come up now may come up behind the pending ones, or is one of them -/
theorem ready_allOf {L : Array Bool} {js : List Nat} {j : Nat} (h : j ∈ Region.ready md ops L) (hn : j ∉ js) : j ∈ Region.ready md ops (allOf L js) := by
  rw [mem_ready] at *
  obtain ⟨h0, o, ho, hall⟩ := h
  exact ⟨by rw [allOf_other js L j hn]; exact h0, o, ho, fun e he hb => allOf_get js L e.on false (hall e he hb)⟩

theorem VP.snoc : ∀ {js : List Nat} {L : Array Bool} {i : Nat}, VP md ops L js → i ∈ Region.ready md ops (allOf L js) → VP md ops L (js ++ [i])
  | [], _, _, _, h => ⟨h, trivial⟩
  | _ :: _, _, _, ⟨h1, h2⟩, h => ⟨h1, VP.snoc h2 h⟩
theorem Fill.snoc {w : World} {i : Nat} {o : Oper} {v : Value} (ho : ops[i]? = some o) : ∀ {js : List Nat} {a b : Act}, Fill P ops w js a b → YieldsW P ops (fun w' => w' = w) o v b → Fill P ops w (js ++ [i]) a (b.put o.dst v)
  | [], a, b, h, hy => by obtain rfl : a = b := h; exact ⟨o, v, ho, hy, rfl⟩
  | _ :: _, a, b, ⟨o', v', h1, h2, h3⟩, hy => ⟨o', v', h1, h2, Fill.snoc ho h3 hy⟩

/-- a pending read that may come up comes up -/
theorem Fill.take (hsel : ∀ (j : Nat) (o : Oper) cs b, ops[j]? = some o → o.op ≠ .select cs b) {w : World} {j : Nat} {post : List Nat} : ∀ {pre : List Nat} {L : Array Bool} {a b : Act}, DC md ops L → j ∈ Region.ready md ops L → VP md ops L (pre ++ j :: post) → (∀ r ∈ pre, Rel md ops r j) → (j ∉ pre) →
    Fill P ops w (pre ++ j :: post) a b → ∃ o v, ops[j]? = some o ∧ YieldsW P ops (fun w' => w' = w) o v a ∧ Fill P ops w (pre ++ post) (a.put o.dst v) b ∧ VP md ops (L.setIfInBounds j true) (pre ++ post) := by
  intro pre
  induction pre with
  | nil => intro L a b _ _ hv _ _ hf; obtain ⟨o, v, h1, h2, h3⟩ := hf; exact ⟨o, v, h1, h2, h3, hv.2⟩
  | cons r pre ih =>
    intro L a b hL hj hv hrel hne hf
    obtain ⟨hr, hv'⟩ := hv
    obtain ⟨or, vr, ho, hy, hf'⟩ := hf
    have hjr : j ≠ r := fun e => hne (by rw [e]; exact List.mem_cons_self ..)
    obtain ⟨oj, v, hoj, hyj, hfj, hvj⟩ := ih (hL.set hr) (ready_mono hj hjr) hv' (fun q hq => hrel q (List.mem_cons_of_mem _ hq)) (fun h => hne (List.mem_cons_of_mem _ h)) hf'
    have hap : or.apart ops oj = true := by
      rcases hrel r (List.mem_cons_self ..) or oj ho hoj with ⟨h, _⟩ | h
      · have h1 := hL.ready hj h
        have h0 := unlisted (mem_ready.1 hr).1
        rw [h1] at h0; cases h0
      · exact h
    obtain ⟨h1, h2, h3⟩ := Oper.apart_spec hap
    refine ⟨oj, v, hoj, hyj.of_same (execOp_put oj (fun cs b => hsel j oj cs b hoj) a or.dst vr h1).symm (wanted_put oj a or.dst vr h1).symm, ?_, ?_⟩
    · exact ⟨or, vr, ho, hy.of_same (execOp_put or (fun cs b => hsel r or cs b ho) a oj.dst v h3) (wanted_put or a oj.dst v h3), by rw [← Act.put_comm a vr v h2]; exact hfj⟩
    · exact ⟨ready_mono hr (Ne.symm hjr), by rw [Array.setIfInBounds_comm _ _ hjr]; exact hvj⟩

theorem put_getD (a : Act) (d : Option Nat) (v : Value) (t : Nat) : (a.put d v).tmps.getD t undef = if d = some t ∧ t < a.tmps.size then v else a.tmps.getD t undef := by
  cases d with
  | none => simp [Act.put]
  | some d =>
    simp only [Act.put, Array.getD_eq_getD_getElem?, Array.getElem?_setIfInBounds]
    by_cases e : d = t
    · subst e
      by_cases e2 : d < a.tmps.size
      · simp [e2]
      · simp [e2]
    · rw [if_neg e, if_neg (by simp [e])]
theorem put_size (a : Act) (d : Option Nat) (v : Value) : (a.put d v).tmps.size = a.tmps.size := by cases d <;> simp [Act.put]

/-- two states that differ in the pending ones' places at most -/
def Ag (ops : Array Oper) (js : List Nat) (A B : Act) : Prop := A.tmps.size = B.tmps.size ∧ A.defers = B.defers ∧ ∀ t, (∃ j ∈ js, ∃ o, ops[j]? = some o ∧ o.dst = some t) ∨ A.tmps.getD t undef = B.tmps.getD t undef
theorem Ag.put {js : List Nat} {A B : Act} (h : Ag ops js A B) (d : Option Nat) (v : Value) : Ag ops js (A.put d v) (B.put d v) := by
  refine ⟨by rw [put_size, put_size, h.1], by cases d <;> exact h.2.1, fun t => ?_⟩
  rw [put_getD, put_getD, h.1]
  rcases h.2.2 t with h1 | h1
  · exact .inl h1
  · rw [h1]; exact .inr rfl
theorem Fill.ag {w : World} : ∀ {js : List Nat} {a b : Act}, Fill P ops w js a b → Ag ops js a b
  | [], a, b, h => by obtain rfl : a = b := h; exact ⟨rfl, rfl, fun t => .inr rfl⟩
  | j :: js, a, b, ⟨o, v, ho, _, hf⟩ => by
    obtain ⟨h1, h2, h3⟩ := hf.ag
    refine ⟨by rw [← h1, put_size], by rw [← h2]; cases o.dst <;> rfl, fun t => ?_⟩
    rcases h3 t with ⟨k, hk, ok, h4, h5⟩ | h4
    · exact .inl ⟨k, List.mem_cons_of_mem _ hk, ok, h4, h5⟩
    · by_cases e : o.dst = some t
      · exact .inl ⟨j, List.mem_cons_self .., o, ho, e⟩
      · rw [put_getD, if_neg (fun h => e h.1)] at h4; exact .inr h4

/-! ### what stands behind: weaker, and reached -/
theorem LetsOut.mono {Q Q' : Exit → Act → World → Prop} (h : ∀ e a w, Q e a w → Q' e a w) (k : LetsOut Q) : LetsOut Q' := let ⟨a, w, q⟩ := k; ⟨a, w, h _ _ _ q⟩
theorem wpOp_monoQ {Q Q' : Exit → Act → World → Prop} (h : ∀ e a w, Q e a w → Q' e a w) {i : Nat} {K : Act → World → Prop} {a : Act} {w : World} (hh : wpOp P ops Q i K a w) : wpOp P ops Q' i K a w := by
  unfold wpOp at *
  cases ho : ops[i]? with
  | none => simp only [ho] at hh ⊢; exact hh
  | some o =>
    simp only [ho] at hh ⊢
    split
    · rename_i hw
      rw [if_pos hw] at hh
      rcases hh with hh | ⟨h1, h2⟩
      · left
        unfold Oper.wp at *
        generalize (execOp a.eval o).run P w = r at *
        cases r with
        | ok n w' =>
          cases n <;> simp only [Oper.upon] at hh ⊢ <;> first | exact hh | skip
          exact hh.mono fun e w'' he => by
            cases e with
            | returned v => exact he
            | panicked c => exact h _ _ _ he
            | outgrown => exact LetsOut.mono h he
        | halt x w' => cases x <;> simp only [Oper.upon] at hh ⊢ <;> first | exact h _ _ _ hh | exact hh
      · exact .inr ⟨h1, LetsOut.mono h h2⟩
    · rename_i hw; rw [if_neg hw] at hh; exact hh
theorem wpOpR_monoQ {Q Q' : Exit → Act → World → Prop} (h : ∀ e a w, Q e a w → Q' e a w) {i : Nat} {K : Act → World → Prop} {a : Act} {w : World} (hh : wpOpR P ops ro Q i K a w) : wpOpR P ops ro Q' i K a w := by
  unfold wpOpR at *
  cases ho : ops[i]? with
  | none => simp only [ho] at hh ⊢; exact hh
  | some o =>
    simp only [ho] at hh ⊢
    split
    · rename_i hc; rw [if_pos hc] at hh; exact hh
    · rename_i hc; rw [if_neg hc] at hh; exact wpOp_monoQ h hh
theorem wpOps_monoQ {Q Q' : Exit → Act → World → Prop} (h : ∀ e a w, Q e a w → Q' e a w) : ∀ (l : List Nat) (a : Act) (w : World), wpOps P ops Q l a w → wpOps P ops Q' l a w
  | [], _, _, hh => h _ _ _ hh
  | i :: l, a, w, hh => by
    rw [wpOps_cons] at hh ⊢
    exact wpOp_mono (fun a' w' k => wpOps_monoQ h l a' w' k) (wpOp_monoQ h hh)
theorem wpAny_monoQ {Q Q' : Exit → Act → World → Prop} (h : ∀ e a w, Q e a w → Q' e a w) : ∀ (fuel : Nat) (listed : Array Bool) (a : Act) (w : World), wpAny P md ops Q fuel listed a w → wpAny P md ops Q' fuel listed a w
  | 0, _, _, _, hh => ⟨hh.1, h _ _ _ hh.2⟩
  | fuel + 1, _, _, _, hh => ⟨fun h0 => h _ _ _ (hh.1 h0), fun i hi => wpOp_mono (fun a' w' k => wpAny_monoQ h fuel _ a' w' k) (wpOp_monoQ h (hh.2 i hi))⟩
theorem wpAnyR_monoQ {Q Q' : Exit → Act → World → Prop} (h : ∀ e a w, Q e a w → Q' e a w) : ∀ (fuel : Nat) (listed : Array Bool) (a : Act) (w : World), wpAnyR P md ops ro Q fuel listed a w → wpAnyR P md ops ro Q' fuel listed a w
  | 0, _, _, _, hh => ⟨hh.1, h _ _ _ hh.2⟩
  | fuel + 1, _, _, _, hh => ⟨fun h0 => h _ _ _ (hh.1 h0), fun i hi => wpOpR_mono (fun a' w' k => wpAnyR_monoQ h fuel _ a' w' k) (wpOpR_monoQ h (hh.2 i hi))⟩

/-- an operation that is met has an outcome -/
theorem wpOp_ex {i : Nat} {K : Act → World → Prop} {a : Act} {w : World} (hh : wpOp P ops Q i K a w) : (∃ a' w', K a' w') ∨ ∃ e a' w', Q e a' w' := by
  unfold wpOp at hh
  cases ho : ops[i]? with
  | none => simp only [ho] at hh; exact .inl ⟨_, _, hh⟩
  | some o =>
    simp only [ho] at hh
    split at hh
    · rcases hh with hh | ⟨_, a', w', q⟩
      · unfold Oper.wp at hh
        generalize (execOp a.eval o).run P w = r at hh
        cases r with
        | ok n w' =>
          cases n <;> simp only [Oper.upon] at hh <;> first | exact hh.elim | exact .inl ⟨_, _, hh⟩ | skip
          · obtain ⟨e, w'', fr, he, _⟩ := hh []
            cases e with
            | returned v => exact .inl ⟨_, _, he⟩
            | panicked c => exact .inr ⟨_, _, _, he⟩
            | outgrown => obtain ⟨a', w3, q⟩ := he; exact .inr ⟨_, _, _, q⟩
          · obtain ⟨v, w'', he, _⟩ := hh default []
            exact .inl ⟨_, _, he⟩
        | halt x w' => cases x <;> simp only [Oper.upon] at hh <;> first | exact hh.elim | exact .inr ⟨_, _, _, hh⟩
      · exact .inr ⟨_, _, _, q⟩
    · exact .inl ⟨_, _, hh⟩
theorem wpOpR_ex {i : Nat} {K : Act → World → Prop} {a : Act} {w : World} (hh : wpOpR P ops ro Q i K a w) : (∃ a' w', K a' w') ∨ ∃ e a' w', Q e a' w' := by
  unfold wpOpR at hh
  cases ho : ops[i]? with
  | none => simp only [ho] at hh; exact .inl ⟨_, _, hh⟩
  | some o =>
    simp only [ho] at hh
    split at hh
    · obtain ⟨v, _, hK⟩ := hh; exact .inl ⟨_, _, hK⟩
    · exact wpOp_ex hh
theorem wpAnyR_ex : ∀ (fuel : Nat) (listed : Array Bool) (a : Act) (w : World), wpAnyR P md ops ro Q fuel listed a w → ∃ e a' w', Q e a' w'
  | 0, _, _, _, hh => ⟨_, _, _, hh.2⟩
  | fuel + 1, listed, a, w, hh => by
    cases hr : Region.ready md ops listed with
    | nil => exact ⟨_, _, _, hh.1 hr⟩
    | cons i rs =>
      rcases wpOpR_ex (hh.2 i (by rw [hr]; exact List.mem_cons_self ..)) with ⟨a', w', hK⟩ | h
      · exact wpAnyR_ex fuel _ a' w' hK
      · exact h
end
end Go.Exe
