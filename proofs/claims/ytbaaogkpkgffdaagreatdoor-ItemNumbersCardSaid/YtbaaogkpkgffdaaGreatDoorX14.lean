/- A part of an executor of the model over abstract values, and what it tells of the calls. -/
import Derived.Test.YtbaaogkpkgffdaaGreatDoorX13
import Derived.Laws.AppendOwn
namespace Go.Exe
open Go
set_option linter.unusedSectionVars false
variable [Env]

section
variable (tt : TT)

/-! ### slices -/
noncomputable def oBnd (fr : Fr) (o : Option Operand) (d : Nat) (k : Nat → R1) : R1 := Option.rec (k d) (fun x => inNat k (ev x fr)) o
noncomputable def subStr (v a b : Nat) : Nat := Nat.mod (Nat.div v (Nat.pow 256 a)) (Nat.pow 256 (Nat.sub b a))
noncomputable def slStr (h : Hp) (n v a b : Nat) : R1 := sel (Nat.ble a b) (sel (Nat.ble b n) (.v (.str (Nat.sub b a) (subStr v a b)) h) (.fail 20)) (.fail 20)
noncomputable def slOff (o a m es : Nat) : Nat := sel (Nat.beq m a) o (Nat.add o (Nat.mul a es))
noncomputable def slSl (h : Hp) (i : Pt) (o cap es : Nat) (op : Bool) (a b : Nat) : R1 :=
  sel (Nat.ble a b) (sel (Nat.ble b cap) (sel (sel op (Nat.beq a cap) false) (.v .esl h) (.v (.sl i (slOff o a cap es) (Nat.sub b a) (Nat.sub cap a) es op) h)) (.fail 21)) (.fail 21)
noncomputable def noMax (mx : Option Operand) : Bool := Option.rec true (fun _ => false) mx
noncomputable def isStrT (te : TE) : Bool := TI.rec (motive := fun _ => Bool) (fun _ => false) false true (fun _ => false) (fun _ => false) (fun _ _ => false) (fun _ _ => false) (fun _ => false) false false te.ti
noncomputable def strT (t : Nat) (r : R1) : R1 := ob (ty tt t) fun te => sel (isStrT te) r (.fail 22)
noncomputable def tiPtr {β : Type} (d : β) (k : Nat → β) (x : TI) : β := TI.rec (motive := fun _ => β) (fun _ => d) d d k (fun _ => d) (fun _ _ => d) (fun _ _ => d) (fun _ => d) d d x
noncomputable def tiArr {β : Type} (d : β) (k : Nat → Nat → β) (x : TI) : β := TI.rec (motive := fun _ => β) (fun _ => d) d d (fun _ => d) (fun _ => d) k (fun _ _ => d) (fun _ => d) d d x
noncomputable def parOf (t : Nat) (k : Nat → TE → R1) : R1 := ob (ty tt t) fun te => tiPtr (tiArr (.fail 25) (fun n e => ob (ty tt e) (k n)) te.ti) (fun a => ob (ty tt a) fun ta => tiArr (.fail 25) (fun n e => ob (ty tt e) (k n)) ta.ti) te.ti
noncomputable def slArr (t : Nat) (lo hi : Option Operand) (h : Hp) (i : Pt) (o : Nat) : R1 := Option.rec (motive := fun _ => R1) (Option.rec (motive := fun _ => R1) (parOf tt t fun n te => .v (.sl i o n n te.size false) h) (fun _ => .fail 25) hi) (fun _ => .fail 25) lo
noncomputable def oSlice (t : Nat) (x : Operand) (lo hi mx : Option Operand) (fr : Fr) (h : Hp) : R1 := sel (noMax mx) ((fun v => onSl (onNils (onStr (onPtr (.fail 23) (slArr tt t lo hi h) v)
    (fun n a => strT tt t (oBnd fr lo 0 fun l => oBnd fr hi n fun b => slStr h n a l b)) v)
    (elemOf tt t fun _ _ => oBnd fr lo 0 fun l => oBnd fr hi 0 fun b => sel (Nat.beq l 0) (sel (Nat.beq b 0) (.v .nils h) (.fail 23)) (.fail 23)) v)
    (fun i o len cap es op => elemOf tt t fun _ te => sel (Nat.beq te.size es) (oBnd fr lo 0 fun l => oBnd fr hi len fun b => slSl h i o cap es op l b) (.fail 23)) v) (ev x fr)) (.fail 23)

/-! ### lengths -/
noncomputable def natV (n : Nat) : AV := .int .i64 (.ofNat n)
noncomputable def lenV (t : Nat) (v : AV) (h : Hp) : R1 := onSl (onNils (onStr (onEsl (.fail 24) (elemOf tt t fun _ _ => .v (natV 0) h) v) (fun n _ => strT tt t (.v (natV n) h)) v) (elemOf tt t fun _ _ => .v (natV 0) h) v) (fun _ _ len _ _ _ => elemOf tt t fun _ _ => .v (natV len) h) v

variable {tt} {P : Program} {o : Oper} {act : Act} {φ : PM} {fr : Fr} {h : Hp} {w : World}

theorem oBnd_elim {C : R1 → Prop} {o : Option Operand} {d : Nat} {k : Nat → R1} (kf : FR φ fr act) (hd : ∀ n, C (.fail n)) (hk : ∀ n, (o = none ∧ n = d ∨ ∃ x q, o = some x ∧ act.eval x = .int q (.ofNat n)) → C (k n)) : C (oBnd fr o d k) := by
  unfold oBnd
  cases o with
  | none => exact hk d (.inl ⟨rfl, rfl⟩)
  | some x =>
    refine inNat_elim hd fun q n e => hk n (.inr ⟨x, q, rfl, ?_⟩)
    have := ev_sound kf x
    rw [e] at this
    exact this

theorem strT_elim {C : R1 → Prop} {t : Nat} {r : R1} (ht : TTok P tt) (hd : ∀ n, C (.fail n)) (hk : P.underlying t = some .string → C r) : C (strT tt t r) := by
  unfold strT
  refine ob_elim (hd _) fun te hte => sel_elim (fun h1 => hk ?_) fun _ => hd _
  obtain ⟨d, hu, hti, _⟩ := (ht t te hte).und
  cases hc : te.ti <;> (try (unfold isStrT at h1; rw [hc] at h1; cases h1; done))
  rw [hc] at hti
  cases d <;> simp [TIok] at hti
  exact hu

theorem run_bound {x : Value} {y : Nat} {code : BoundsCode} {q : IntKind} {n : Nat} (hx : x = .int q (.ofNat n)) (hn : n ≤ y) (w : World) : (Instr.sliceBound x y code).run P w = .ok n w := by
  subst hx
  have h1 : (0 : Int) ≤ (Int.ofNat n) ∧ (Int.ofNat n) ≤ y := ⟨Int.natCast_nonneg _, by exact Int.ofNat_le.2 hn⟩
  simp only [Instr.sliceBound, Sem.run_bind, run_asIntOf, Result.andThen_ok]
  rw [if_pos h1]
  rfl

theorem run_bounds {lo hi : Option Operand} {isS : Bool} {len cap a b : Nat} (hl : lo = none ∧ a = 0 ∨ ∃ x q, lo = some x ∧ act.eval x = .int q (.ofNat a))
    (hh : hi = none ∧ b = len ∨ ∃ x q, hi = some x ∧ act.eval x = .int q (.ofNat b)) (hab : a ≤ b) (hb : b ≤ cap) (w : World) :
    (Instr.sliceBounds isS len cap (lo.map act.eval) (hi.map act.eval) none).run P w = .ok (a, b, cap) w := by
  unfold Instr.sliceBounds
  rcases hh with ⟨rfl, rfl⟩ | ⟨y, q, rfl, ey⟩
  · rcases hl with ⟨rfl, rfl⟩ | ⟨x, q, rfl, ex⟩
    · simp
    · simp [run_bound (P := P) ex hab w]
  · rcases hl with ⟨rfl, rfl⟩ | ⟨x, q', rfl, ex⟩
    · simp [run_bound (P := P) ey hb w]
    · simp [run_bound (P := P) ey hb w, run_bound (P := P) ex hab w]

theorem noMax_eq {mx : Option Operand} (h : noMax mx = true) : mx = none := by
  cases mx with
  | none => rfl
  | some x => cases h

theorem strB_extract {n v a b : Nat} (hab : a ≤ b) (hb : b ≤ n) : (strB n v).extract a b = strB (b - a) (subStr v a b) := by
  apply ByteArray.ext
  apply Array.ext'
  rw [strB_data, ByteArray.data_extract]
  show ((strB n v).data.extract a b).toList = bytesOf (b - a) (v / 256 ^ a % 256 ^ (b - a))
  rw [bytesOf_sub n v a b hab hb, ← strB_data]
  simp [List.drop_take]

theorem subStr_lt (v a b : Nat) : subStr v a b < 256 ^ (b - a) := Nat.mod_lt _ (Nat.pow_pos (by decide))

theorem parOf_elim (ht : TTok P tt) {C : R1 → Prop} {t : Nat} {k : Nat → TE → R1} (hd : ∀ n, C (.fail n)) (hk : ∀ a n el te, P.underlying t = some (.pointer a) → P.underlying a = some (.array n el) → TEok P el te → C (k n te))
    (hk2 : ∀ n el te, P.underlying t = some (.array n el) → TEok P el te → C (k n te)) : C (parOf tt t k) := by
  unfold parOf
  refine ob_elim (hd _) fun te hte => ?_
  obtain ⟨d, hd', hti, _⟩ := (ht t te hte).und
  cases hc : te.ti <;> first | exact hd _ | skip
  · rename_i a
    rw [hc] at hti
    cases d <;> simp [TIok] at hti
    subst hti
    show C (ob (ty tt a) fun ta => tiArr (.fail 25) (fun n e => ob (ty tt e) (k n)) ta.ti)
    refine ob_elim (hd _) fun ta hta => ?_
    obtain ⟨da, hda, htia, _⟩ := (ht a ta hta).und
    cases hca : ta.ti <;> first | exact hd _ | skip
    rename_i n el
    rw [hca] at htia
    cases da <;> simp [TIok] at htia
    obtain ⟨rfl, rfl⟩ := htia
    show C (ob (ty tt el) (k n))
    exact ob_elim (hd _) fun te hte => hk a n el te hd' hda (ht el te hte)
  · rename_i n el
    rw [hc] at hti
    cases d <;> simp [TIok] at hti
    obtain ⟨rfl, rfl⟩ := hti
    show C (ob (ty tt el) (k n))
    exact ob_elim (hd _) fun te hte => hk2 n el te hd' (ht el te hte)
theorem oSlice_sound (ht : TTok P tt) (kf : FR φ fr act) {t : Nat} {x : Operand} {lo hi mx : Option Operand} (ho : o.op = .slice t x lo hi mx) : SoundP P o act φ h (oSlice tt t x lo hi mx fr h) := by
  have hx := ev_sound kf x
  unfold oSlice
  refine sel_elim (fun hm => ?_) fun _ => trivial
  obtain rfl := noMax_eq hm
  refine onSl_elim (onNils_elim (onStr_elim (onPtr_elim trivial fun i off e => ?_) fun n a e => strT_elim ht (fun _ => trivial) fun hu => oBnd_elim kf (fun _ => trivial) fun l hl => oBnd_elim kf (fun _ => trivial) fun b hb => ?_)
    fun e => elemOf_elim ht (fun _ => trivial) fun el te hu hte => oBnd_elim kf (fun _ => trivial) fun l hl => oBnd_elim kf (fun _ => trivial) fun b hb => sel_elim (fun h1 => sel_elim (fun h2 => ?_) fun _ => trivial) fun _ => trivial)
    fun i off len cap es op e => elemOf_elim ht (fun _ => trivial) fun el te hu hte => sel_elim (fun hes => oBnd_elim kf (fun _ => trivial) fun l hl => oBnd_elim kf (fun _ => trivial) fun b hb => ?_) fun _ => trivial
  · rw [e] at hx
    obtain ⟨p, hp, hx⟩ := hx
    unfold slArr
    cases lo with
    | some _ => trivial
    | none =>
      cases hi with
      | some _ => trivial
      | none =>
        refine parOf_elim ht (fun _ => trivial) (fun a n el te hu hua hte => ?_) fun n el te hu hte => ?_
        rotate_left
        · obtain ⟨inf, z, hi', hs, _⟩ := hte.info
          refine SoundP.value (v := .slice (some ⟨p.blk, p.off + off, none⟩) n n) (fun w => ?_) ⟨p, n, hp, rfl, Nat.le_refl _, fun _ => rfl, fun h => by cases h⟩
          simp only [execOp, ho]
          refine run_value ?_
          have hadd : (⟨p.blk, p.off + off, none⟩ : Addr).add 0 = ⟨p.blk, p.off + off, none⟩ := by simp [Addr.add]
          simp [Instr.sliceAt, run_underlying hu, hx, Instr.sureAddr, Instr.sliceBounds, Exe.run_sizeOf hi', hadd]
        obtain ⟨inf, z, hi', hs, _⟩ := hte.info
        refine SoundP.value (v := .slice (some ⟨p.blk, p.off + off, none⟩) n n) (fun w => ?_) ⟨p, n, hp, rfl, Nat.le_refl _, fun _ => rfl, fun h => by cases h⟩
        simp only [execOp, ho]
        refine run_value ?_
        have hadd : (⟨p.blk, p.off + off, none⟩ : Addr).add 0 = ⟨p.blk, p.off + off, none⟩ := by simp [Addr.add]
        simp [Instr.sliceAt, Instr.slice, run_underlying hu, run_underlying hua, hx, asAddr, Instr.sliceBounds, Exe.run_sizeOf hi', hadd]
  · unfold slStr
    refine sel_elim (fun h1 => sel_elim (fun h2 => ?_) fun _ => trivial) fun _ => trivial
    rw [e] at hx
    obtain ⟨hx, ha⟩ := hx
    have h1 := Nat.le_of_ble_eq_true h1
    have h2 := Nat.le_of_ble_eq_true h2
    refine SoundP.value (v := .string ((strB n a).extract l b)) (fun w => ?_) ⟨by rw [strB_extract h1 h2]; rfl, subStr_lt _ _ _⟩
    simp only [execOp, ho]
    refine run_value ?_
    have hz : (strB n a).size = n := strB_size n a
    simp [Instr.sliceAt, Instr.slice, run_underlying hu, hx, hz, run_bounds hl hb h1 h2]
  · rw [e] at hx
    have hx : act.eval x = .slice none 0 0 := hx
    have h1 := Nat.eq_of_beq_eq_true h1
    have h2 := Nat.eq_of_beq_eq_true h2
    subst h1; subst h2
    obtain ⟨inf, z, hi', hs, _⟩ := hte.info
    refine SoundP.value (v := .slice none 0 0) (fun w => ?_) rfl
    simp only [execOp, ho]
    refine run_value ?_
    simp [Instr.sliceAt, Instr.slice, run_underlying hu, hx, Exe.run_sizeOf hi', run_bounds hl hb (Nat.le_refl 0) (Nat.le_refl 0)]
  · unfold slSl
    rw [e] at hx
    obtain ⟨p, c, hp, hx, hcap, hcl, hop⟩ := hx
    refine sel_elim (fun h1 => sel_elim (fun h2 => sel_elim (fun h3 => ?_) fun h3 => ?_) fun _ => trivial) fun _ => trivial
    · -- at the end of a row whose room is not known
      have h1 := Nat.le_of_ble_eq_true h1
      have h2 := Nat.le_of_ble_eq_true h2
      obtain ⟨inf, z, hi', hs, _⟩ := hte.info
      have hlc : l = cap := by
        cases op with
        | true => exact Nat.eq_of_beq_eq_true h3
        | false => cases h3
      have hbl : b - l = 0 := by omega
      refine SoundP.value (v := .slice (some (if c = l then (⟨p.blk, p.off + off, none⟩ : Addr) else (⟨p.blk, p.off + off, none⟩ : Addr).add (l * inf.size))) (b - l) (c - l)) (fun w => ?_) ⟨_, c - l, by rw [hbl]⟩
      simp only [execOp, ho]
      refine run_value ?_
      simp only [Instr.sliceAt, Option.map_none, Instr.slice, Sem.run_bind, run_underlying hu, hx, Result.andThen_ok, run_bounds hl hb h1 (Nat.le_trans h2 hcap), Exe.run_sizeOf hi', Option.map_some]
      by_cases e : c = l <;> simp [e]
    have h1 := Nat.le_of_ble_eq_true h1
    have h2 := Nat.le_of_ble_eq_true h2
    obtain ⟨inf, z, hi', hs, _⟩ := hte.info
    have hes := Nat.eq_of_beq_eq_true hes
    have h3' : op = true → l ≠ cap := fun e => by subst e; exact fun e2 => by rw [e2] at h3; simp at h3
    have hoff : (if c = l then (⟨p.blk, p.off + off, none⟩ : Addr) else (⟨p.blk, p.off + off, none⟩ : Addr).add (l * inf.size)) = ⟨p.blk, p.off + slOff off l cap es, none⟩ := by
      unfold slOff
      rw [Addr_add, hs, hes]
      cases hop' : op with
      | false =>
        have := hcl hop'
        subst this
        rw [sel_ite]
        by_cases hcl2 : c = l
        · rw [if_pos hcl2, if_pos (by simp [hcl2])]
        · rw [if_neg hcl2, if_neg (fun h => hcl2 (Nat.eq_of_beq_eq_true h))]; simp [Nat.add_assoc]
      | true =>
        have hne := h3' hop'
        rw [sel_ite, if_neg (by omega), if_neg (fun h => hne (Nat.eq_of_beq_eq_true h).symm)]; simp [Nat.add_assoc]
    refine SoundP.value (v := .slice (some ⟨p.blk, p.off + slOff off l cap es, none⟩) (b - l) (c - l)) (fun w => ?_) ⟨p, c - l, hp, rfl, ?_, fun e => ?_, fun e => ?_⟩
    · simp only [execOp, ho]
      refine run_value ?_
      simp only [Instr.sliceAt, Option.map_none, Instr.slice, Sem.run_bind, run_underlying hu, hx, Result.andThen_ok, run_bounds hl hb h1 (Nat.le_trans h2 hcap), Exe.run_sizeOf hi', Option.map_some, ← hoff]
      by_cases e : c = l <;> simp [e]
    · show cap - l ≤ c - l; omega
    · show c - l = cap - l; rw [hcl e]
    · have := hop e
      have hne := h3' e
      unfold slOff
      rw [sel_ite, if_neg (fun h => hne (Nat.eq_of_beq_eq_true h).symm)]
      show p.off + (off + l * es) + (c - l) * es ≤ p.top
      have : l * es + (c - l) * es = c * es := by rw [← Nat.add_mul]; congr 1; omega
      omega

theorem lenV_run (ht : TTok P tt) {t : Nat} {x : AV} {v : Value} {tyr : TypeId} (hx : VR φ x v) {C : R1 → Prop} (hd : ∀ n, C (.fail n))
    (hk : ∀ n : Nat, (∀ (ts : Array TypeId), ts[0]? = some t → ∀ w, (Builtin.len_ ts tyr #[v]).run P w = .ok (.int .i64 n) w) → C (.v (natV n) h)) : C (lenV tt t x h) := by
  unfold lenV
  refine onSl_elim (onNils_elim (onStr_elim (onEsl_elim (hd _) fun e => elemOf_elim ht hd fun el te hu hte => hk 0 fun ts h0 w => ?_) fun n a e => strT_elim ht hd fun hu => hk n fun ts h0 w => ?_) fun e => elemOf_elim ht hd fun el te hu hte => hk 0 fun ts h0 w => ?_) fun i off len cap es op e => elemOf_elim ht hd fun el te hu hte => hk len fun ts h0 w => ?_
  · subst e
    obtain ⟨ad, c, rfl⟩ := hx
    simp [Builtin.len_, h0, run_underlying hu, goInt]
  · subst e
    obtain ⟨rfl, _⟩ := hx
    have hz : (strB n a).size = n := strB_size n a
    simp [Builtin.len_, h0, run_underlying hu, goInt, hz]
  · subst e
    obtain rfl : v = .slice none 0 0 := hx
    simp [Builtin.len_, h0, run_underlying hu, goInt]
  · subst e
    obtain ⟨p, c, hp, rfl, _⟩ := hx
    simp [Builtin.len_, h0, run_underlying hu, goInt]
end
end Go.Exe
