/- A part of an executor of the model over abstract values, and what it tells of the calls. -/
import Derived.Test.YtbaaogkpkgffdaaGreatDoorX15
import Derived.Laws.BytesString
import Derived.Laws.Cover4
import Derived.Laws.MakeOwn
namespace Go.Exe
open Go
set_option linter.unusedSectionVars false
variable [Env]

section
variable (tt : TT)

/-! ### make -/
noncomputable def mkIn (te : TE) (l c : Nat) (h : Hp) : R1 := sel (Nat.ble l c) (sel (roomOk te c) (sel (Nat.ble (Nat.mul c te.size) 16777216) (hpN h fun i => .v (.sl i 0 l c te.size false) (newBlk h (repL te.zero c) false false)) (.fail 40)) (.fail 40)) (.fail 40)
noncomputable def oMkSl (t : Nat) (l c : Operand) (fr : Fr) (h : Hp) : R1 := elemOf tt t fun _ te => inNat (fun n => inNat (fun m => mkIn te n m h) (ev c fr)) (ev l fr)

/-! ### conversions -/
noncomputable def natOf (n : Int) : Nat := Int.rec (motive := fun _ => Nat) (fun a => a) (fun _ => 0) n
noncomputable def isU8 (k : IntKind) : Bool := IntKind.rec (motive := fun _ => Bool) false false false false true false false false k
noncomputable def isI32 (k : IntKind) : Bool := IntKind.rec (motive := fun _ => Bool) false false true false false false false false k
noncomputable def obV (o : Option AV) (k : AV → Option AV) : Option AV := Option.rec none k o
noncomputable def chB (a : AV) (ih : Option AV) : Option AV := obV ih (onStr none fun n v => onInt none (fun k m => sel (isU8 k) (some (.str (Nat.succ n) (Nat.add (Nat.mod (natOf m) 256) (Nat.mul 256 v)))) none) a)
noncomputable def strOfB (l : AV) : Option AV := foldV (some (.str 0 0)) chB l
noncomputable def catS (x y : AV) : Option AV := onStr none (fun n a => onStr none (fun m b => some (.str (Nat.add n m) (Nat.add a (Nat.mul b (Nat.pow 256 n))))) y) x
noncomputable def encS (n : Int) : AV := cvStr (Utf8.encode n).data.toList
noncomputable def chR (a : AV) (ih : Option AV) : Option AV := obV ih (fun y => onInt none (fun k m => sel (isI32 k) (catS (encS m) y) none) a)
noncomputable def strOfR (l : AV) : Option AV := foldV (some (.str 0 0)) chR l
noncomputable def bytesL : Nat → Nat → AV := Nat.rec (fun _ => .nil) (fun _ ih v => .cons (.int .u8 (.ofNat (Nat.mod v 256))) (ih (Nat.div v 256)))
noncomputable def kindOf {β : Type} (d : β) (k : IntKind → β) (x : TI) : β := TI.rec (motive := fun _ => β) k d d (fun _ => d) (fun _ => d) (fun _ _ => d) (fun _ _ => d) (fun _ => d) d d x
noncomputable def fromSl (k : IntKind) (l : AV) (h : Hp) : R1 := sel (isU8 k) (ob (strOfB l) (ret h)) (sel (isI32 k) (ob (strOfR l) (ret h)) (.fail 41))
noncomputable def toStr (s : Nat) (x : AV) (h : Hp) : R1 := onInt (onStr (onSl (onNils (.fail 42) (elemOf tt s fun _ te => kindOf (.fail 42) (fun k => sel (isU8 k) (.v (.str 0 0) h) (sel (isI32 k) (.v (.str 0 0) h) (.fail 42))) te.ti) x)
    (fun i o len _ es _ => elemOf tt s fun _ te => sel (Nat.beq es 1) (ob (loadN h i len o) fun l => kindOf (.fail 42) (fun k => fromSl k l h) te.ti) (.fail 42)) x) (fun n a => .v (.str n a) h) x) (fun _ n => .v (encS n) h) x
noncomputable def toSl (d : Nat) (x : AV) (h : Hp) : R1 := onStr (.fail 43) (fun n v => elemOf tt d fun _ te => kindOf (.fail 43) (fun k => sel (isU8 k) (sel (Nat.beq te.size 1) (hpN h fun i => .v (.sl i 0 n n 1 true) (newBlk h (bytesL n v) true true)) (.fail 43)) (.fail 43)) te.ti) x
noncomputable def cvInt (k : IntKind) (x : AV) (h : Hp) : R1 := onInt (.fail 44) (fun _ n => .v (.int k (iwrap k n)) h) x
noncomputable def oConv (s d : Nat) (x : Operand) (fr : Fr) (h : Hp) : R1 := ob (ty tt s) fun _ => ob (ty tt d) fun te => TI.rec (motive := fun _ => R1) (fun k => cvInt k (ev x fr) h) (.fail 45) (toStr tt s (ev x fr) h) (fun _ => .fail 45) (fun _ => toSl tt d (ev x fr) h) (fun _ _ => .fail 45) (fun _ _ => .fail 45) (fun _ => .fail 45) (.fail 45) (.fail 45) te.ti

/-! ### the runes of a string -/
noncomputable def oRange (t : Nat) (x : Operand) (fr : Fr) (h : Hp) : R1 := onStr (.fail 46) (fun n v => strT tt t (hpN h fun i => .v (.ptr i 0) (newH h (.siter n v 0)))) (ev x fr)
noncomputable def l3 (a b c : AV) : AV := .tup (.cons a (.cons b (.cons c .nil)))
noncomputable def nextD (h : Hp) (i : Pt) (n v pos : Nat) (d : Nat × Nat) : R1 := .v (l3 (.bool true) (.int .i64 (.ofNat pos)) (.int .i32 (.ofNat d.1))) (setB h i (.siter n v (Nat.add pos d.2)))
noncomputable def nextS (h : Hp) (i : Pt) (n v pos : Nat) : R1 := sel (Nat.blt pos n) (sel (Nat.blt (byteAt v pos) 128) (nextD h i n v pos (byteAt v pos, 1)) (nextD h i n v pos (Utf8.decode (strB n v) pos))) (.v (.tup (.cons (.bool false) .nil)) h)
noncomputable def nextH (h : Hp) (i : Pt) (o : HO) : R1 := HO.rec (motive := fun _ => R1) (fun _ _ _ _ => .fail 47) (fun n v pos => nextS h i n v pos) (fun _ => .fail 47) (fun _ => .fail 47) (fun _ _ _ => .fail 47) o
noncomputable def oNext (it : Operand) (s : Bool) (fr : Fr) (h : Hp) : R1 := sel s (onPtr (.fail 47) (fun i o => sel (Nat.beq o 0) (ob (getP i h.t) (nextH h i)) (.fail 47)) (ev it fr)) (.fail 47)

variable {tt} {P : Program} {o : Oper} {act : Act} {φ : PM} {fr : Fr} {h : Hp} {w : World}

theorem natOf_eq (n : Int) : natOf n = n.toNat := by cases n <;> rfl

theorem oMkSl_sound (ht : TTok P tt) (kf : FR φ fr act) (kw : WR φ h w) {t : Nat} {l c : Operand} (ho : o.op = .makeSlice t l c) : Sound1 P o act φ h w (oMkSl tt t l c fr h) := by
  have hl := ev_sound kf l
  have hc := ev_sound kf c
  unfold oMkSl
  refine elemOf_elim ht (fun _ => trivial) fun e te hu hte => inNat_elim (fun _ => trivial) fun q1 n en => inNat_elim (fun _ => trivial) fun q2 m em => ?_
  unfold mkIn
  refine sel_elim (fun h1 => sel_elim (fun h2 => sel_elim (fun h3 => ?_) fun _ => trivial) fun _ => trivial) fun _ => trivial
  rw [en] at hl; rw [em] at hc
  have hl : act.eval l = .int q1 (.ofNat n) := hl
  have hc : act.eval c = .int q2 (.ofNat m) := hc
  have h1 : n ≤ m := Nat.le_of_ble_eq_true h1
  have h3 : m * te.size ≤ 16777216 := Nat.le_of_ble_eq_true h3
  obtain ⟨hr1, hr2⟩ := roomOk_inv h2
  obtain ⟨inf, z, hi, hsz, hby, hz, _, hzl, hzs⟩ := hte.info
  have hrun := run_makeSlice (P := P) (w := w) t e inf z hu hi hz q1 q2 (.ofNat n) (.ofNat m) (Int.natCast_nonneg _) (Int.ofNat_le.2 h1) (by show m * inf.size ≤ _; rw [hsz]; exact h3)
    (by show (inf.bytes : Int) * (m : Int) ≤ _; rw [hby, ← Int.natCast_mul, Nat.mul_comm]; omega) (by show (m : Int) ≤ _; omega)
  have hzz : (madeCells z.cells (m * inf.size)).toList = ((Array.range (m * z.cells.size)).map (z.cells[· % z.cells.size]!)).toList := by rw [hsz, ← hzs]; rfl
  have hrep := VL_rep (hzl φ) m
  rw [← hzz] at hrep
  have hn := newBlk_sound kw hrep false false (madeCells z.cells (m * inf.size)) e (0, 0) (fun j v hj => by simpa using hj) (by simp) (fun _ => rfl) (fun j _ => by simp)
  refine ⟨_, _, _, _, by simp only [execOp, ho, hl, hc]; exact run_value hrun, .inl rfl, ⟨_, m, PM.set_same _ _ _, by simp, Nat.le_refl _, fun _ => rfl, fun h => by cases h⟩, hn⟩

theorem obV_inv {o : Option AV} {k : AV → Option AV} {x : AV} (h : obV o k = some x) : ∃ a, o = some a ∧ k a = some x := by
  cases o with
  | none => cases h
  | some a => exact ⟨a, rfl, h⟩

theorem isU8_eq {k : IntKind} (h : isU8 k = true) : k = .u8 := by cases k <;> first | rfl | cases h
theorem isI32_eq {k : IntKind} (h : isI32 k = true) : k = .i32 := by cases k <;> first | rfl | cases h

theorem strOfB_sound {φ : PM} {l : AV} {vs : List Value} (h : VL φ l vs) : ∀ {x : AV}, strOfB l = some x → ∃ (ns : List Int) (v : Nat), vs = ns.map (Value.int .u8) ∧ x = .str ns.length v ∧ bytesOf ns.length v = ns.map (fun n => UInt8.ofNat n.toNat) ∧ v < 256 ^ ns.length := by
  refine VL_induct (motive := fun l vs => ∀ {x : AV}, strOfB l = some x → ∃ (ns : List Int) (v : Nat), vs = ns.map (Value.int .u8) ∧ x = .str ns.length v ∧ bytesOf ns.length v = ns.map (fun n => UInt8.ofNat n.toNat) ∧ v < 256 ^ ns.length) ?_ ?_ h
  · intro x e; cases e; exact ⟨[], 0, rfl, rfl, rfl, by simp⟩
  · intro a b v vs ha hb ih x e
    have e : chB a (strOfB b) = some x := e
    obtain ⟨y, ey, e⟩ := obV_inv e
    obtain ⟨ns, u, rfl, rfl, h1, h2⟩ := ih ey
    obtain ⟨n', v', ey', e⟩ := onStr_inv (v := .str ns.length u) e
    cases ey'
    obtain ⟨k, m, rfl, e⟩ := onInt_inv rfl e
    obtain ⟨hk, e⟩ := sel_some_inv e
    cases e
    obtain rfl := isU8_eq hk
    obtain rfl : v = .int .u8 m := ha
    refine ⟨m :: ns, natOf m % 256 + 256 * u, rfl, rfl, ?_, ?_⟩
    · simp only [List.length_cons, bytesOf, List.map_cons]
      have e1 : (natOf m % 256 + 256 * u) % 256 = natOf m % 256 := by omega
      have e2 : (natOf m % 256 + 256 * u) / 256 = u := by omega
      rw [e1, e2, h1, natOf_eq]
      congr 1
      apply UInt8.toNat.inj
      simp
    · simp only [List.length_cons, Nat.pow_succ]; omega

theorem foldl_push (ns : List Int) : ∀ s : ByteArray, (ns.foldl (fun r n => r.push (UInt8.ofNat n.toNat)) s).data.toList = s.data.toList ++ ns.map (fun n => UInt8.ofNat n.toNat) := by
  induction ns with
  | nil => intro s; simp
  | cons n ns ih => intro s; simp [ih]

theorem strB_of {n a : Nat} {s : ByteArray} (h : bytesOf n a = s.data.toList) : s = strB n a := by
  apply ByteArray.ext
  apply Array.ext'
  rw [strB_data, h]

theorem strOfR_sound {φ : PM} {l : AV} {vs : List Value} (h : VL φ l vs) : ∀ {x : AV}, strOfR l = some x → ∃ (ns : List Int) (n v : Nat), vs = ns.map (Value.int .i32) ∧ x = .str n v ∧ bytesOf n v = (ns.map fun n => (Utf8.encode n).data.toList).flatten ∧ v < 256 ^ n := by
  refine VL_induct (motive := fun l vs => ∀ {x : AV}, strOfR l = some x → ∃ (ns : List Int) (n v : Nat), vs = ns.map (Value.int .i32) ∧ x = .str n v ∧ bytesOf n v = (ns.map fun n => (Utf8.encode n).data.toList).flatten ∧ v < 256 ^ n) ?_ ?_ h
  · intro x e; cases e; exact ⟨[], 0, 0, rfl, rfl, rfl, by simp⟩
  · intro a b v vs ha hb ih x e
    have e : chR a (strOfR b) = some x := e
    obtain ⟨y, ey, e⟩ := obV_inv e
    obtain ⟨ns, n, u, rfl, rfl, h1, h2⟩ := ih ey
    obtain ⟨k, m, rfl, e⟩ := onInt_inv rfl e
    obtain ⟨hk, e⟩ := sel_some_inv e
    cases e
    obtain rfl := isI32_eq hk
    obtain rfl : v = .int .i32 m := ha
    refine ⟨m :: ns, (Utf8.encode m).data.toList.length + n, ofB (Utf8.encode m).data.toList + u * 256 ^ (Utf8.encode m).data.toList.length, rfl, rfl, ?_, cat_lt (ofB_lt _) h2⟩
    rw [bytesOf_append _ _ _ _ (ofB_lt _) h2, bytesOf_ofB, h1]
    simp

theorem runesBytes_data (ns : List Int) : ∀ s : ByteArray, (ns.foldl (fun r n => r ++ Utf8.encode n) s).data.toList = s.data.toList ++ (ns.map fun n => (Utf8.encode n).data.toList).flatten := by
  induction ns with
  | nil => intro s; simp
  | cons n ns ih => intro s; simp [ih]

theorem bytesL_sound (φ : PM) : ∀ (n v : Nat), VL φ (bytesL n v) ((bytesOf n v).map fun b => Value.int .u8 b.toNat) := by
  intro n
  induction n with
  | zero => intro v; exact VL.nil _
  | succ n ih =>
    intro v
    refine VL.cons ?_ (ih (v / 256))
    show Value.int .u8 ((UInt8.ofNat (v % 256)).toNat : Int) = Value.int .u8 (Int.ofNat (v % 256))
    rw [UInt8.toNat_ofNat', Nat.mod_eq_of_lt (show v % 256 < 2 ^ 8 from Nat.mod_lt _ (by decide))]
    rfl

theorem kindOf_elim {C : R1 → Prop} {k : IntKind → R1} {d : R1} {x : TI} (hd : C d) (hk : ∀ q, x = .int q → C (k q)) : C (kindOf d k x) := by
  cases x <;> first | exact hd | exact hk _ rfl

theorem int_und {e : Nat} {te : TE} (hte : TEok P e te) {q : IntKind} (h : te.ti = .int q) : P.underlying e = some (.int q) := by
  obtain ⟨d, hd, hti, _⟩ := hte.und
  rw [h] at hti
  cases d <;> simp [TIok] at hti
  rw [hti]; exact hd

theorem toStr_sound (ht : TTok P tt) (kw : WR φ h w) {s d : Nat} (hd : P.underlying d = some .string) {x : AV} {v : Value} (hx : VR φ x v) {t0 : TypeDesc} (hs0 : P.underlying s = some t0) :
    SoundV P (convert s d v) φ h w (toStr tt s x h) := by
  unfold toStr
  refine onInt_elim (onStr_elim (onSl_elim (onNils_elim trivial fun e => elemOf_elim ht (fun _ => trivial) fun el te hu hte => kindOf_elim trivial fun q hq => sel_elim (fun hk => ?_) fun _ => sel_elim (fun hk => ?_) fun _ => trivial)
    fun i off len cap es op e => elemOf_elim ht (fun _ => trivial) fun el te hu hte => sel_elim (fun hes => ob_elim trivial fun l hl => kindOf_elim trivial fun q hq => ?_) fun _ => trivial) fun n a e => ?_) fun k n e => ?_
  · subst e
    obtain rfl : v = .slice none 0 0 := hx
    obtain rfl := isU8_eq hk
    exact SoundV.mk (v := .string .empty) (by simp [convert, run_underlying hu, run_underlying hd, run_underlying (int_und hte hq), Conv.bytesToString]) ⟨rfl, by simp⟩ (Stp.refl kw)
  · subst e
    obtain rfl : v = .slice none 0 0 := hx
    obtain rfl := isI32_eq hk
    exact SoundV.mk (v := .string .empty) (by simp [convert, run_underlying hu, run_underlying hd, run_underlying (int_und hte hq), Conv.runesToString]) ⟨rfl, by simp⟩ (Stp.refl kw)
  · subst e
    obtain ⟨p, c, hp, rfl, _⟩ := hx
    obtain ⟨vs, hvl, hv, hcell⟩ := kw.cells hl hp
    have hload := run_loadCells P ⟨p.blk, p.off + off, none⟩ rfl vs len hvl w hcell
    unfold fromSl
    refine sel_elim (fun hk => ob_elim trivial fun y hy => ?_) fun _ => sel_elim (fun hk => ob_elim trivial fun y hy => ?_) fun _ => trivial
    · obtain rfl := isU8_eq hk
      obtain ⟨ns, u, rfl, rfl, h1, h2⟩ := strOfB_sound hv hy
      refine SoundV.mk (v := .string (ns.foldl (fun r n => r.push (UInt8.ofNat n.toNat)) ByteArray.empty)) (w' := w) ?_ ⟨?_, h2⟩ (Stp.refl kw)
      · rw [run_convert_bytes_string w s d el _ len c hu (int_und hte hq) hd]
        exact run_bytesToString w _ len c ns hload
      · show Value.string _ = Value.string _
        congr 1
        apply strB_of
        rw [foldl_push, h1]; simp
    · obtain rfl := isI32_eq hk
      obtain ⟨ns, n, u, rfl, rfl, h1, h2⟩ := strOfR_sound hv hy
      refine SoundV.mk (v := .string (runesBytes ns)) (w' := w) ?_ ⟨?_, h2⟩ (Stp.refl kw)
      · rw [run_convert_runes_string w s d el _ len c hu (int_und hte hq) hd]
        exact run_runesToString w _ len c ns hload
      · show Value.string _ = Value.string _
        congr 1
        apply strB_of
        unfold runesBytes
        rw [runesBytes_data, h1]; simp
  · subst e
    obtain ⟨rfl, ha⟩ := hx
    refine SoundV.mk (v := .string (strB n a)) (w' := w) ?_ ⟨rfl, ha⟩ (Stp.refl kw)
    cases t0 <;> simp [convert, run_underlying hs0, run_underlying hd]
  · subst e
    obtain rfl : v = .int k n := hx
    refine SoundV.mk (v := .string (Utf8.encode n)) (w' := w) ?_ (cvA_sound φ (.string (Utf8.encode n))) (Stp.refl kw)
    cases t0 <;> simp [convert, run_underlying hs0, run_underlying hd, Conv.intToString]

theorem push_modify {α : Type} (xs : Array α) (a : α) (f : α → α) : (xs.push a).modify xs.size f = xs.push (f a) := by
  apply Array.ext
  · simp
  · intro i h1 h2
    simp only [Array.getElem_modify, Array.getElem_push]
    by_cases e : i < xs.size
    · rw [dif_pos e, dif_pos e, if_neg (by omega)]
    · have : i = xs.size := by simp at h1; omega
      subst this
      simp
theorem run_stringToBytes (P : Program) (w : World) (a : ByteArray) (el : Nat) (cells : Array Value) (hcc : a.data.map (fun (b : UInt8) => Value.int .u8 b.toNat) ++ Array.replicate (grownCap w a.size 0 el - a.size) (Value.int .u8 0) = cells) :
   (Conv.stringToBytes el a).run P w = .ok (.slice (some ⟨w.heap.size, 0, none⟩) a.size (grownCap w a.size 0 el)) { w.drew with heap := w.drew.heap.push (.cells cells el (cells.size, cells.size + 1)) } := by
  have hw : ∀ (x : Obj), (w.drew.alloc x) = { w.drew with heap := w.drew.heap.push x } := fun x => rfl
  have h1 : (Conv.stringToBytes el a).run P w = (do markStringish ⟨w.heap.size, 0, none⟩; pure (Value.slice (some ⟨w.heap.size, 0, none⟩) a.size (grownCap w a.size 0 el)) : Sem Value).run P (w.drew.alloc (.cells cells el)) := by
    subst hcc
    rfl
  rw [h1]
  have h2 : (markStringish ⟨w.heap.size, 0, none⟩).run P (w.drew.alloc (.cells cells el)) = .ok () ((w.drew.alloc (.cells cells el)).freeze ⟨w.heap.size, cells.size, none⟩ 1) := by
    have : (w.drew.alloc (.cells cells el)).shape? w.heap.size = some (el, cells.size) := by
      unfold World.shape?
      rw [show (w.drew.alloc (.cells cells el)).heap[w.heap.size]? = some (.cells cells el) from Array.getElem?_push_size]
    simp [markStringish, this]
  simp only [Sem.run_bind, h2, Result.andThen_ok, Sem.run_pure]
  congr 1
  unfold World.freeze
  rw [if_neg (by decide)]
  rw [hw]
  congr 1
  exact push_modify w.drew.heap _ _

theorem toSl_sound (ht : TTok P tt) (kw : WR φ h w) {s d : Nat} {x : AV} {v : Value} (hx : VR φ x v) {t0 : TypeDesc} (hs0 : P.underlying s = some t0) :
    SoundV P (convert s d v) φ h w (toSl tt d x h) := by
  unfold toSl
  refine onStr_elim trivial fun n a e => elemOf_elim ht (fun _ => trivial) fun el te hu hte => kindOf_elim trivial fun q hq => sel_elim (fun hk => sel_elim (fun hs1 => ?_) fun _ => trivial) fun _ => trivial
  subst e
  obtain ⟨rfl, ha⟩ := hx
  obtain rfl := isU8_eq hk
  have hz : (strB n a).size = n := strB_size n a
  have hcap : n ≤ grownCap w n 0 el := grownCap_ge _ _ _ _
  have hbytes : ((strB n a).data.map fun (b : UInt8) => Value.int .u8 b.toNat).toList = (bytesOf n a).map fun b => Value.int .u8 b.toNat := by
    rw [Array.toList_map, strB_data]
  have hsize : ((strB n a).data.map (fun (b : UInt8) => Value.int .u8 b.toNat) ++ Array.replicate (grownCap w n 0 el - n) (Value.int .u8 0)).size = grownCap w n 0 el := by
    have : (strB n a).data.size = n := hz
    simp [this]; omega
  generalize hcc : (strB n a).data.map (fun (b : UInt8) => Value.int .u8 b.toNat) ++ Array.replicate (grownCap w n 0 el - n) (Value.int .u8 0) = cells at hsize
  have hn := newBlk_sound (Stp.drew kw).wr (bytesL_sound φ n a) true true cells el (cells.size, cells.size + 1) (fun j v hj => by
    have hjl := (List.getElem?_eq_some_iff.1 hj).1
    rw [← hbytes] at hj hjl
    rw [← hcc, Array.getElem?_append_left (by simpa using hjl)]
    simpa using hj) (by rw [hsize]; simp; exact hcap) (fun h => by cases h) (fun j hj => by simp; omega)
  have hrun : (convert s d (.string (strB n a))).run P w = .ok (.slice (some ⟨w.heap.size, 0, none⟩) n (grownCap w n 0 el)) { w.drew with heap := w.drew.heap.push (.cells cells el (cells.size, cells.size + 1)) } := by
    have : (convert s d (.string (strB n a))).run P w = (Conv.stringToBytes el (strB n a)).run P w := by
      cases t0 <;> simp [convert, run_underlying hs0, run_underlying hu, run_underlying (int_und hte hq)]
    rw [this, run_stringToBytes P w (strB n a) el cells (by rw [hz]; exact hcc), hz]
  refine SoundV.mk hrun ⟨_, _, PM.set_same _ _ _, by simp, hcap, (fun h => by cases h), fun _ => ?_⟩ ((Stp.drew kw).trans hn)
  show 0 + 0 + grownCap w n 0 el * 1 ≤ cells.size
  rw [hsize]; omega

theorem oConv_sound (ht : TTok P tt) (kf : FR φ fr act) (kw : WR φ h w) {s d : Nat} {x : Operand} (ho : o.op = .convert s d x) : Sound1 P o act φ h w (oConv tt s d x fr h) := by
  have hx := ev_sound kf x
  unfold oConv
  refine ob_elim trivial fun ts hts => ob_elim trivial fun te hte => ?_
  obtain ⟨ds, hds, _⟩ := (ht s ts hts).und
  obtain ⟨dd, hdd, hti, _⟩ := (ht d te hte).und
  have key : ∀ r, SoundV P (convert s d (act.eval x)) φ h w r → Sound1 P o act φ h w r := fun r k => k.sound (by simp only [execOp, ho])
  cases hc : te.ti with
  | int k =>
    rw [hc] at hti
    show Sound1 P o act φ h w (cvInt k (ev x fr) h)
    unfold cvInt
    refine onInt_elim trivial fun k' n e => key _ ?_
    rw [e] at hx
    have hx : act.eval x = .int k' n := hx
    cases dd <;> simp [TIok] at hti
    subst hti
    refine SoundV.mk (v := .int k (k.wrap n)) (w' := w) ?_ (by show _ = Value.int k (iwrap k n); rw [iwrap_eq]) (Stp.refl kw)
    rw [hx]
    cases ds <;> simp [convert, run_underlying hds, run_underlying hdd, Conv.intToInt]
  | str =>
    rw [hc] at hti
    show Sound1 P o act φ h w (toStr tt s (ev x fr) h)
    cases dd <;> simp [TIok] at hti
    exact key _ (toStr_sound ht kw hdd hx hds)
  | slice e =>
    show Sound1 P o act φ h w (toSl tt d (ev x fr) h)
    exact key _ (toSl_sound ht kw hx hds)
  | _ => trivial

theorem oRange_sound (ht : TTok P tt) (kf : FR φ fr act) (kw : WR φ h w) {t : Nat} {x : Operand} (ho : o.op = .range t x) : Sound1 P o act φ h w (oRange tt t x fr h) := by
  have hx := ev_sound kf x
  unfold oRange
  refine onStr_elim trivial fun n a e => strT_elim ht (fun _ => trivial) fun hu => ?_
  rw [e] at hx
  obtain ⟨hx, ha⟩ := hx
  refine SoundV.sound (s := Instr.range t (act.eval x)) ?_ (by simp only [execOp, ho])
  refine SoundV.mk (v := .pointer (some ⟨w.heap.size, 0, none⟩)) (w' := { w with heap := w.heap.push (.stringIter (strB n a) 0) }) ?_ ⟨⟨w.heap.size, 0, 0⟩, PM.set_same _ _ _, rfl⟩ (kw.alloc (.stringIter (strB n a) 0) (.siter n a 0) 0 ⟨Array.getElem?_push_size, ha, rfl⟩)
  simp [Instr.range, hx, run_underlying hu]

theorem decode_ascii {n a pos : Nat} (hp : pos < n) (h : byteAt a pos < 128) : Utf8.decode (strB n a) pos = (byteAt a pos, 1) := by
  have h1 : ((strB n a).get! (pos + 0)).toNat = byteAt a pos := by
    have hb := bytesOf_getElem? n a pos hp
    rw [← strB_data] at hb
    have hz : (strB n a).data.size = n := strB_size n a
    have : (strB n a).get! pos = UInt8.ofNat (a / 256 ^ pos % 256) := by
      simp only [Array.getElem?_toList] at hb
      show (strB n a).data[pos]! = _
      rw [getElem!_pos (strB n a).data pos (by omega)]
      rw [getElem?_pos (strB n a).data pos (by omega)] at hb
      exact Option.some.inj hb
    rw [Nat.add_zero, this, UInt8.toNat_ofNat']
    exact Nat.mod_eq_of_lt (Nat.mod_lt _ (by decide))
  unfold Utf8.decode
  simp only [h1]
  rw [if_pos (by exact h)]

theorem nextD_sound (kw : WR φ h w) {i : Pt} {n a pos : Nat} (g : getP i h.t = some (.siter n a pos)) {p : PB} (hp : φ i = some p) (hpos : pos < n) {ty : Nat} :
    SoundV P (Instr.next (.pointer (some ⟨p.blk, 0, none⟩)) true ty) φ h w (nextD h i n a pos (Utf8.decode (strB n a) pos)) := by
  obtain ⟨q, hq, hw, ha, h0⟩ := kw.obj _ _ g
  rw [hp] at hq; cases hq
  have hz : (strB n a).size = n := strB_size n a
  have hlt : p.blk < w.heap.size := (show OR φ p w (.siter n a pos) from ⟨hw, ha, h0⟩).lt
  refine SoundV.mk (v := .tuple #[.bool true, goInt pos, .int .i32 (Utf8.decode (strB n a) pos).1]) (w' := { w with heap := w.heap.setIfInBounds p.blk (.stringIter (strB n a) (pos + (Utf8.decode (strB n a) pos).2)) }) (φ' := φ) ?_ ⟨_, rfl, VL.cons rfl (VL.cons rfl (VL.cons rfl (VL.nil _)))⟩ ?_
  · have : (getObj p.blk).run P w = .ok (.stringIter (strB n a) pos) w := by simp [getObj, Sem.run, hw]
    have h2 : ∀ x, (setObj p.blk x).run P w = .ok () { w with heap := w.heap.setIfInBounds p.blk x } := fun x => by simp [setObj, Sem.run, hw]
    simp [Instr.next, this, hz, hpos, h2]
  · refine kw.modify (w' := { w with heap := w.heap.setIfInBounds p.blk (.stringIter (strB n a) (pos + (Utf8.decode (strB n a) pos).2)) }) (b := .siter n a (pos + (Utf8.decode (strB n a) pos).2)) ⟨_, g, rfl⟩ hp ⟨rfl, rfl, rfl, by simp, fun k hk hn => ?_⟩ ⟨?_, ha, h0⟩
    · show (w.heap.setIfInBounds p.blk _)[k]? = _
      rw [Array.getElem?_setIfInBounds_ne (fun e => hn e.symm)]
    · show (w.heap.setIfInBounds p.blk _)[p.blk]? = _
      rw [Array.getElem?_setIfInBounds_self_of_lt hlt]

theorem oNext_sound (kf : FR φ fr act) (kw : WR φ h w) {it : Operand} {s : Bool} (ho : o.op = .next it s) : Sound1 P o act φ h w (oNext it s fr h) := by
  have hx := ev_sound kf it
  unfold oNext
  refine sel_elim (fun hs => onPtr_elim trivial fun i off e => sel_elim (fun h0 => ob_elim trivial fun x g => ?_) fun _ => trivial) fun _ => trivial
  subst hs
  obtain rfl := Nat.eq_of_beq_eq_true h0
  rw [e] at hx
  obtain ⟨p, hp, hx⟩ := hx
  cases x with
  | cells => trivial
  | map => trivial
  | mapU => trivial
  | miter => trivial
  | siter n a pos =>
    obtain ⟨q, hq, hw, ha, h00⟩ := kw.obj _ _ g
    rw [hp] at hq; cases hq
    have hx' : act.eval it = .pointer (some ⟨p.blk, 0, none⟩) := by rw [hx, h00]
    refine SoundV.sound (s := Instr.next (.pointer (some ⟨p.blk, 0, none⟩)) true o.type) ?_ (by simp only [execOp, ho, hx'])
    show SoundV P _ φ h w (nextS h i n a pos)
    unfold nextS
    refine sel_elim (fun hlt => sel_elim (fun hb => ?_) fun _ => ?_) fun hge => ?_
    · rw [← decode_ascii (blt_lt hlt) (blt_lt hb)]
      exact nextD_sound kw g hp (blt_lt hlt)
    · exact nextD_sound kw g hp (blt_lt hlt)
    · refine SoundV.mk (v := .tuple #[.bool false]) (w' := w) (φ' := φ) ?_ ⟨_, rfl, VL.cons rfl (VL.nil _)⟩ (Stp.refl kw)
      have hz : (strB n a).size = n := strB_size n a
      have : (getObj p.blk).run P w = .ok (.stringIter (strB n a) pos) w := by simp [getObj, Sem.run, hw]
      have hge : ¬ pos < n := fun h => by rw [blt_of_lt h] at hge; cases hge
      simp [Instr.next, this, hz, hge]
end
end Go.Exe
