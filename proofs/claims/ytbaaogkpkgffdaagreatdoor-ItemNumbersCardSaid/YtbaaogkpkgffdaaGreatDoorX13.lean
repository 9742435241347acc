/- A part of an executor of the model over abstract values, and what it tells of the calls. -/
import Derived.Test.YtbaaogkpkgffdaaGreatDoorX12
namespace Go.Exe
open Go
set_option linter.unusedSectionVars false
variable [Env]

section
variable (tt : TT)
noncomputable def inNat (k : Nat → R1) (v : AV) : R1 := onInt (.fail 9) (fun _ n => Int.rec (motive := fun _ => R1) k (fun _ => .fail 9) n) v
noncomputable def oNil (x : Operand) (fr : Fr) (h : Hp) : R1 := (fun v => onPtr (onFn (onSl (onMap (.fail 10) (fun i => .v (.map i) h) v) (fun a b c d e f => .v (.sl a b c d e f) h) v) (fun f c => .v (.fn f c) h) v) (fun i o => .v (.ptr i o) h) v) (ev x fr)
noncomputable def oUn (op : UnOp) (_ : Nat) (x : Operand) (fr : Fr) (h : Hp) : R1 := UnOp.rec (motive := fun _ => R1)
  (onInt (.fail 11) (fun k n => .v (.int k (iwrap k (Int.sub 0 n))) h) (ev x fr)) (onInt (.fail 11) (fun k n => ob (bitsO .xor k (sel k.signed (-1) k.max) n) (ret h)) (ev x fr)) (onBool (.fail 11) (fun b => .v (.bool (nB b)) h) (ev x fr)) (.fail 11) op
noncomputable def oFA (t : Nat) (x : Operand) (f : Nat) (fr : Fr) (h : Hp) : R1 := onPtr (.fail 12) (fun i o => fldOf tt t fun fs => ob (nthF fs f) fun g => .v (.ptr i (Nat.add o g.off)) h) (ev x fr)
noncomputable def fieldIn (cs : AV) (h : Hp) (g : FI) : R1 := sel g.agg (.v (.agg (takeL g.size (dropL g.off cs))) h) (ob (nthL g.off cs) (ret h))
noncomputable def oField (t : Nat) (x : Operand) (f : Nat) (fr : Fr) (h : Hp) : R1 := onAgg (.fail 13) (fun cs => fldOf tt t fun fs => ob (nthF fs f) (fieldIn cs h)) (ev x fr)
noncomputable def ixSl (h : Hp) (k : Nat) (i : Pt) (o len _ es : Nat) (_ : Bool) : R1 := sel (Nat.blt k len) (.v (.ptr i (Nat.add o (Nat.mul k es))) h) (.fail 14)
noncomputable def ixArr (t : Nat) (h : Hp) (k : Nat) (i : Pt) (o : Nat) : R1 := arrOf tt t fun n _ te => sel (Nat.blt k n) (.v (.ptr i (Nat.add o (Nat.mul k te.size))) h) (.fail 14)
noncomputable def oIA (t : Nat) (x ix : Operand) (fr : Fr) (h : Hp) : R1 := inNat (fun k => (fun v => onSl (onPtr (.fail 14) (ixArr tt t h k) v) (fun i o len cap es op => elemOf tt t fun _ te => sel (Nat.beq te.size es) (ixSl h k i o len cap es op) (.fail 14)) v) (ev x fr)) (ev ix fr)
noncomputable def byteAt (v k : Nat) : Nat := Nat.mod (Nat.div v (Nat.pow 256 k)) 256
noncomputable def partIn (te : TE) (cs : AV) (off : Nat) (h : Hp) : R1 := sel te.isAgg (.v (.agg (takeL te.size (dropL off cs))) h) (ob (nthL off cs) (ret h))
noncomputable def oIX (t : Nat) (x ix : Operand) (fr : Fr) (h : Hp) : R1 := inNat (fun k => (fun v => onStr (onAgg (.fail 15) (fun cs => arrOf tt t fun n _ te => sel (Nat.blt k n) (partIn te cs (Nat.mul k te.size) h) (.fail 15)) v)
   (fun n a => ob (ty tt t) fun te => TI.rec (motive := fun _ => R1) (fun _ => .fail 15) (.fail 15) (sel (Nat.blt k n) (.v (.int .u8 (.ofNat (byteAt a k))) h) (.fail 15)) (fun _ => .fail 15) (fun _ => .fail 15) (fun _ _ => .fail 15) (fun _ _ => .fail 15) (fun _ => .fail 15) (.fail 15) (.fail 15) te.ti) v) (ev x fr)) (ev ix fr)
noncomputable def oExt (t : Operand) (ix : Nat) (fr : Fr) (h : Hp) : R1 := onTup (.fail 16) (fun l => ob (nthL ix l) (ret h)) (ev t fr)
noncomputable def oMkFn (f : Fn) (first cap : Array Operand) (fr : Fr) (h : Hp) : R1 := List.rec (motive := fun _ => R1) (Fn.rec (motive := fun _ => R1) (fun f => .v (.fn f (mapEv cap.toList fr)) h) (fun _ => .fail 17) (fun _ _ => .fail 17) (fun _ _ _ _ => .fail 17) (fun _ => .fail 17) f) (fun _ _ _ => .fail 17) first.toList

variable {tt} {P : Program} {o : Oper} {act : Act} {φ : PM} {fr : Fr} {h : Hp} {w : World}

theorem inNat_elim {C : R1 → Prop} {k : Nat → R1} {v : AV} (hd : ∀ n, C (.fail n)) (hk : ∀ q n, v = .int q (.ofNat n) → C (k n)) : C (inNat k v) := by
  unfold inNat
  refine onInt_elim (hd _) fun q n e => ?_
  cases n with
  | ofNat n => exact hk q n e
  | negSucc n => exact hd _

theorem oNil_sound (kf : FR φ fr act) {x : Operand} (ho : o.op = .nilCheck x) : SoundP P o act φ h (oNil x fr h) := by
  have hx := ev_sound kf x
  unfold oNil
  refine onPtr_elim (onFn_elim (onSl_elim (onMap_elim trivial fun i e => ?_) fun a b c d e' f e => ?_) fun f c e => ?_) fun i off e => ?_
  · rw [e] at hx
    refine SoundP.value (v := act.eval x) (fun w => ?_) hx
    obtain ⟨p, _, h2⟩ := hx
    simp [execOp, ho, h2]
  · rw [e] at hx
    refine SoundP.value (v := act.eval x) (fun w => ?_) hx
    obtain ⟨p, q, _, h2, _⟩ := hx
    simp [execOp, ho, h2]
  · rw [e] at hx
    refine SoundP.value (v := act.eval x) (fun w => ?_) hx
    obtain ⟨p, h2, _⟩ := hx
    simp [execOp, ho, h2]
  · rw [e] at hx
    refine SoundP.value (v := act.eval x) (fun w => ?_) hx
    obtain ⟨p, _, h2⟩ := hx
    simp [execOp, ho, h2]

theorem oUn_sound (kf : FR φ fr act) {op : UnOp} {t : Nat} {x : Operand} (ho : o.op = .unOp op t x) : SoundP P o act φ h (oUn op t x fr h) := by
  have hx := ev_sound kf x
  cases op with
  | neg =>
    show SoundP P o act φ h (onInt (.fail 11) (fun k n => .v (.int k (iwrap k (Int.sub 0 n))) h) (ev x fr))
    refine onInt_elim trivial fun k n e => ?_
    rw [e] at hx
    have hx : act.eval x = .int k n := hx
    refine SoundP.value (v := .int k (k.wrap (0 - n))) (fun w => ?_) (by show _ = Value.int k (iwrap k (0 - n)); rw [iwrap_eq])
    simp [execOp, ho, hx, Op.unary, Op.intArith]
  | xor =>
    show SoundP P o act φ h (onInt (.fail 11) (fun k n => ob (bitsO .xor k (sel k.signed (-1) k.max) n) (ret h)) (ev x fr))
    refine onInt_elim trivial fun k n e => ob_elim trivial fun z hz => ?_
    rw [e] at hx
    have hx : act.eval x = .int k n := hx
    cases hz
    refine SoundP.value (v := .int k (k.wrap (BitVec.ofInt k.bits (if k.signed then -1 else k.max) ^^^ BitVec.ofInt k.bits n).toNat)) (fun w => ?_) ?_
    · simp [execOp, ho, hx, Op.unary, Op.intBits]
    · rw [sel_ite]; rfl
  | not =>
    show SoundP P o act φ h (onBool (.fail 11) (fun b => .v (.bool (nB b)) h) (ev x fr))
    refine onBool_elim trivial fun b e => ?_
    rw [e] at hx
    have hx : act.eval x = .bool b := hx
    refine SoundP.value (v := .bool (!b)) (fun w => ?_) (by show _ = Value.bool (nB b); rw [nB_eq])
    simp [execOp, ho, hx, Op.unary]
  | _ => trivial

theorem Addr_add (b o n : Nat) : (Addr.mk b o none).add n = ⟨b, o + n, none⟩ := by
  unfold Addr.add
  by_cases e : n = 0 <;> simp [e]

theorem run_asIntOf (P : Program) (w : World) (k : IntKind) (n : Int) : (asIntOf (.int k n)).run P w = .ok (k, n) w := rfl

theorem oFA_sound (ht : TTok P tt) (kf : FR φ fr act) {t : Nat} {x : Operand} {f : Nat} (ho : o.op = .fieldAddr t x f) : SoundP P o act φ h (oFA tt t x f fr h) := by
  have hx := ev_sound kf x
  unfold oFA
  refine onPtr_elim trivial fun i off e => fldOf_elim ht (fun _ => trivial) fun fs fields hu hfs => ob_elim trivial fun g hg => ?_
  rw [e] at hx
  obtain ⟨p, hp, hx⟩ := hx
  rw [nthF_eq] at hg
  obtain ⟨fl, hfl, hok⟩ := hfs.get hg
  obtain ⟨inf, hi, hs⟩ := hok.size
  refine SoundP.value (v := .pointer (some ⟨p.blk, p.off + off + fl.offset, none⟩)) (fun w => ?_) ⟨p, hp, by rw [hok.off]; simp [Nat.add_assoc]⟩
  have hne : inf.size ≠ 0 := by rw [hs]; exact hok.pos
  simp [execOp, ho, Instr.fieldAt, run_underlying hu, hx, Instr.sureAddr, fieldPlace, Addr_add]
  rw [show fields[f]? = some fl from by simpa using hfl]
  simp [hne, Exe.run_sizeOf hi]

theorem part_sound {φ : PM} {t : Nat} {i : TypeInfo} {d : TypeDesc} {size : Nat} {agg : Bool} (hi : P.info? t = some i) (hs : i.size = size) (hd : P.underlying t = some d) (ha : aggD d = agg) {cs : AV} {c : Array Value} (hc : VL φ cs c.toList) (off : Nat) :
    (agg = true → (∀ w, (part t c off).run P w = .ok (.agg (c.extract off (off + size))) w) ∧ VR φ (.agg (takeL size (dropL off cs))) (.agg (c.extract off (off + size)))) ∧
    (agg = false → ∀ x, nthL off cs = some x → ∃ v, (∀ w, (part t c off).run P w = .ok v w) ∧ VR φ x v) := by
  refine ⟨fun e => ⟨?_, ?_⟩, fun e x hx => ?_⟩
  · subst e; intro w; simp [part, run_isAgg hd, ha, Exe.run_sizeOf hi, hs]
  · refine ⟨_, rfl, ?_⟩
    have := (hc.drop off).take size
    rwa [show (c.extract off (off + size)).toList = (c.toList.drop off).take size from by simp [List.take_drop]]
  · subst e
    obtain ⟨v, hv, hr⟩ := hc.nth off hx
    refine ⟨v, fun w => ?_, hr⟩
    have hv' : c[off]? = some v := by simpa using hv
    simp [part, run_isAgg hd, ha, hv']

theorem oField_sound (ht : TTok P tt) (kf : FR φ fr act) {t : Nat} {x : Operand} {f : Nat} (ho : o.op = .field t x f) : SoundP P o act φ h (oField tt t x f fr h) := by
  have hx := ev_sound kf x
  unfold oField
  refine onAgg_elim trivial fun cs e => fldOf_elim ht (fun _ => trivial) fun fs fields hu hfs => ob_elim trivial fun g hg => ?_
  rw [e] at hx
  obtain ⟨c, hx, hc⟩ := hx
  rw [nthF_eq] at hg
  obtain ⟨fl, hfl, hok⟩ := hfs.get hg
  obtain ⟨inf, hi, hs⟩ := hok.size
  obtain ⟨d, hd, ha⟩ := hok.agg
  have ps := part_sound (φ := φ) hi hs hd ha hc fl.offset
  have run : ∀ v, (∀ w, (part fl.type c fl.offset).run P w = .ok v w) → ∀ w, (execOp act.eval o).run P w = .ok (.value v) w := by
    intro v hv w
    simp only [execOp, ho]
    refine run_value ?_
    simp only [Instr.field, Sem.run_bind, run_underlying hu, Result.andThen_ok]
    rw [show fields[f]? = some fl from by simpa using hfl]
    simp [hx, asAgg, hv w]
  unfold fieldIn
  refine sel_elim (fun h1 => ?_) (fun h1 => ob_elim trivial fun y hy => ?_)
  · rw [hok.off]
    exact SoundP.value (run _ (ps.1 h1).1) (ps.1 h1).2
  · rw [hok.off] at hy
    obtain ⟨v, hv, hr⟩ := ps.2 h1 y hy
    exact SoundP.value (run _ hv) hr

theorem run_indexAt_slice {t e : Nat} {i : TypeInfo} (hu : P.underlying t = some (.slice e)) (hi : P.info? e = some i) (b off len cap k : Nat) (q : IntKind) (hk : k < len) :
    (Instr.indexAt t (.slice (some ⟨b, off, none⟩) len cap) (.int q (.ofNat k))).run P w = .ok (.pointer (some ⟨b, off + k * i.size, none⟩)) w := by
  simp [Instr.indexAt, asIntOf, run_underlying hu, hk, Exe.run_sizeOf hi, Addr_add]

theorem run_indexAt_array {t e n : Nat} {i : TypeInfo} (hu : P.underlying t = some (.array n e)) (hi : P.info? e = some i) (b off k : Nat) (q : IntKind) (hk : k < n) :
    (Instr.indexAt t (.pointer (some ⟨b, off, none⟩)) (.int q (.ofNat k))).run P w = .ok (.pointer (some ⟨b, off + k * i.size, none⟩)) w := by
  simp [Instr.indexAt, asIntOf, run_underlying hu, hk, Exe.run_sizeOf hi, Addr_add, Instr.sureAddr]

theorem oIA_sound (ht : TTok P tt) (kf : FR φ fr act) {t : Nat} {x ix : Operand} (ho : o.op = .indexAddr t x ix) : SoundP P o act φ h (oIA tt t x ix fr h) := by
  have hx := ev_sound kf x
  have hix := ev_sound kf ix
  unfold oIA
  refine inNat_elim (fun _ => trivial) fun q k ek => ?_
  rw [ek] at hix
  have hix : act.eval ix = .int q (.ofNat k) := hix
  refine onSl_elim (onPtr_elim trivial fun i off e => arrOf_elim ht (fun _ => trivial) fun n el te hu hte => sel_elim (fun hlt => ?_) fun _ => trivial) fun i off len cap es op e => elemOf_elim ht (fun _ => trivial) fun el te hu hte => sel_elim (fun hes => sel_elim (fun hlt => ?_) fun _ => trivial) fun _ => trivial
  · rw [e] at hx
    obtain ⟨p, hp, hx⟩ := hx
    obtain ⟨inf, z, hi, hs, _⟩ := hte.info
    refine SoundP.value (v := .pointer (some ⟨p.blk, p.off + off + k * inf.size, none⟩)) (fun w => ?_) ⟨p, hp, by rw [hs]; simp [Nat.add_assoc]⟩
    simp only [execOp, ho, hx, hix]
    exact run_value (run_indexAt_array hu hi _ _ _ _ (blt_lt hlt))
  · rw [e] at hx
    obtain ⟨p, c, hp, hx, _⟩ := hx
    obtain ⟨inf, z, hi, hs, _⟩ := hte.info
    have hes := Nat.eq_of_beq_eq_true hes
    refine SoundP.value (v := .pointer (some ⟨p.blk, p.off + off + k * inf.size, none⟩)) (fun w => ?_) ⟨p, hp, by rw [hs, hes]; simp [Nat.add_assoc]⟩
    simp only [execOp, ho, hx, hix]
    exact run_value (run_indexAt_slice hu hi _ _ _ _ _ _ (blt_lt hlt))

theorem oIX_sound (ht : TTok P tt) (kf : FR φ fr act) {t : Nat} {x ix : Operand} (ho : o.op = .index t x ix) : SoundP P o act φ h (oIX tt t x ix fr h) := by
  have hx := ev_sound kf x
  have hix := ev_sound kf ix
  unfold oIX
  refine inNat_elim (fun _ => trivial) fun q k ek => ?_
  rw [ek] at hix
  have hix : act.eval ix = .int q (.ofNat k) := hix
  refine onStr_elim (onAgg_elim trivial fun cs e => arrOf_elim ht (fun _ => trivial) fun n el te hu hte => sel_elim (fun hlt => ?_) fun _ => trivial) fun n a e => ob_elim trivial fun te hte => ?_
  · rw [e] at hx
    obtain ⟨c, hx, hc⟩ := hx
    obtain ⟨inf, z, hi, hs, _⟩ := hte.info
    obtain ⟨d, hd, _, ha⟩ := hte.und
    have ps := part_sound (φ := φ) hi hs hd ha hc (k * te.size)
    have run : ∀ v, (∀ w, (part el c (k * te.size)).run P w = .ok v w) → ∀ w, (execOp act.eval o).run P w = .ok (.value v) w := by
      intro v hv w
      simp only [execOp, ho]
      refine run_value ?_
      have hlt := blt_lt hlt
      simp [Instr.index, hix, hx, asIntOf, run_underlying hu, hlt, Exe.run_sizeOf hi, hs, hv w]
    unfold partIn
    refine sel_elim (fun h1 => ?_) (fun h1 => ob_elim trivial fun y hy => ?_)
    · exact SoundP.value (run _ (ps.1 h1).1) (ps.1 h1).2
    · obtain ⟨v, hv, hr⟩ := ps.2 h1 y hy
      exact SoundP.value (run _ hv) hr
  · obtain ⟨d, hd, hti, _⟩ := (ht t te hte).und
    cases hc : te.ti <;> try trivial
    rw [hc] at hti
    show SoundP P o act φ h (sel (Nat.blt k n) (.v (.int .u8 (.ofNat (byteAt a k))) h) (.fail 15))
    refine sel_elim (fun hlt => ?_) fun _ => trivial
    cases d <;> simp [TIok] at hti
    rw [e] at hx
    obtain ⟨hx, ha⟩ := hx
    have hlt := blt_lt hlt
    have hb : (strB n a)[k]? = some (UInt8.ofNat (a / 256 ^ k % 256)) := by
      have := bytesOf_getElem? n a k hlt
      rw [← strB_data] at this
      simp only [Array.getElem?_toList] at this
      rw [getElem?_pos (strB n a) k (by simpa using hlt)]
      rw [getElem?_pos (strB n a).data k (by have h9 : (strB n a).data.size = n := strB_size n a; omega)] at this
      exact this
    refine SoundP.value (v := .int .u8 (UInt8.ofNat (a / 256 ^ k % 256)).toNat) (fun w => ?_) ?_
    · simp only [execOp, ho]
      refine run_value ?_
      generalize UInt8.ofNat (a / 256 ^ k % 256) = c at hb ⊢
      simp [Instr.index, hix, hx, asIntOf, run_underlying hd, hb]
    · show _ = Value.int .u8 ((a / 256 ^ k % 256 : Nat) : Int)
      have hm : a / 256 ^ k % 256 < 256 := Nat.mod_lt _ (by decide)
      generalize a / 256 ^ k % 256 = m at hm
      rw [show (UInt8.ofNat m).toNat = m from by rw [UInt8.toNat_ofNat']; exact Nat.mod_eq_of_lt hm]

theorem oExt_sound (kf : FR φ fr act) {x : Operand} {ix : Nat} (ho : o.op = .extract x ix) : SoundP P o act φ h (oExt x ix fr h) := by
  have hx := ev_sound kf x
  unfold oExt
  refine onTup_elim trivial fun l e => ob_elim trivial fun y hy => ?_
  rw [e] at hx
  obtain ⟨vs, hx, hl⟩ := hx
  obtain ⟨v, hv, hr⟩ := (show VL φ l vs.toList from hl).nth ix hy
  refine SoundP.value (v := v) (fun w => ?_) hr
  have hv' : vs[ix]? = some v := by simpa using hv
  simp [execOp, ho, hx, Instr.extract, hv']

theorem oMkFn_sound (kf : FR φ fr act) {f : Fn} {first cap : Array Operand} (ho : o.op = .makeFunc f first cap) : SoundP P o act φ h (oMkFn f first cap fr h) := by
  unfold oMkFn
  cases hf : first.toList with
  | cons a b => trivial
  | nil =>
    cases f <;> try trivial
    rename_i f
    have hfirst : first = #[] := by apply Array.ext'; rw [hf]
    refine SoundP.value (v := .func (.func f) #[] (cap.map act.eval)) (fun w => ?_) ⟨_, rfl, by have := mapEv_sound kf cap.toList; show VL φ _ _; simpa using this⟩
    simp [execOp, ho, Instr.makeFunc, hfirst]
end
end Go.Exe
