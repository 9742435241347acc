/- A part of an executor of the model over abstract values, and what it tells of the calls. -/
import Derived.Test.YtbaaogkpkgffdaaGreatDoorX9
import Derived.ChangeKeysEq
namespace Go.Exe
open Go
set_option linter.unusedSectionVars false
variable [Env]

theorem flatK_len {P : Program} : ∀ (d : Nat) {t : TypeId} {ks : List CK}, flatK P d t = some ks → ks.length = P.cellsOf t := by
  intro d
  cases d with
  | zero => intro t ks h; cases h
  | succ d =>
    intro t ks h
    unfold flatK at h
    split at h
    · split at h
      · cases h
      · split at h
        · split at h
          · cases h; assumption
          · cases h
        · cases h
    · split at h
      · split at h
        · cases h; assumption
        · cases h
      · cases h
    · split at h
      · split at h
        · cases h; simp; omega
        · cases h
      · cases h

def CellEq (P : Program) (w : World) (c : CK) (u v : Value) (r : Bool) : Prop := ∀ d t, ckOf P t = some c → (Op.equalIn (d + 1) t u v).run P w = .ok r w

def AllEq (P : Program) (w : World) : List CK → List Value → List Value → Bool → Prop
  | [], [], [], r => r = true
  | c :: ks, x :: xs, y :: ys, r => xs.length = ks.length ∧ ys.length = ks.length ∧ ((CellEq P w c x y false ∧ r = false) ∨ (CellEq P w c x y true ∧ AllEq P w ks xs ys r))
  | _, _, _, _ => False

theorem AllEq.len {P : Program} {w : World} : ∀ {ks : List CK} {xs ys : List Value} {r : Bool}, AllEq P w ks xs ys r → xs.length = ks.length ∧ ys.length = ks.length
  | [], [], [], _, _ => ⟨rfl, rfl⟩
  | _ :: _, _ :: _, _ :: _, _, ⟨h1, h2, _⟩ => ⟨by simp [h1], by simp [h2]⟩

/-- a row of cells in two parts -/
theorem AllEq.split {P : Program} {w : World} : ∀ {k1 k2 : List CK} {xs ys : List Value} {r : Bool}, AllEq P w (k1 ++ k2) xs ys r →
    ∃ r1, AllEq P w k1 (xs.take k1.length) (ys.take k1.length) r1 ∧ (r1 = false ∧ r = false ∨ r1 = true ∧ AllEq P w k2 (xs.drop k1.length) (ys.drop k1.length) r)
  | [], k2, xs, ys, r, h => ⟨true, by simp [AllEq], .inr ⟨rfl, by simpa using h⟩⟩
  | c :: k1, k2, x :: xs, y :: ys, r, ⟨h1, h2, h3⟩ => by
    have h1 : xs.length = (k1 ++ k2).length := h1
    have h2 : ys.length = (k1 ++ k2).length := h2
    simp only [List.length_append] at h1 h2
    rcases h3 with ⟨hc, hr⟩ | ⟨hc, ha⟩
    · exact ⟨false, ⟨by simp; omega, by simp; omega, .inl ⟨hc, rfl⟩⟩, .inl ⟨rfl, hr⟩⟩
    · obtain ⟨r1, ha1, hr⟩ := AllEq.split ha
      refine ⟨r1, ⟨by simp; omega, by simp; omega, .inr ⟨hc, by simpa using ha1⟩⟩, ?_⟩
      simpa using hr

def isAggT (P : Program) (t : TypeId) : Bool := match P.underlying t with | some d => aggD d | none => false
/-- a value of a type, of its cells -/
def valT (P : Program) (t : TypeId) (l : List Value) : Value := if isAggT P t then .agg l.toArray else l.headD undef

theorem run_part {P : Program} {t : TypeId} {ks : List CK} {d : Nat} (h : flatK P d t = some ks) (xs : Array Value) (off : Nat) (hl : off + ks.length ≤ xs.size) (w : World) :
    (part t xs off).run P w = .ok (valT P t ((xs.toList.drop off).take ks.length)) w := by
  have hlen := flatK_len d h
  cases hu : P.underlying t with
  | none =>
    cases d with
    | zero => cases h
    | succ d => simp [flatK, hu, ckOf] at h
  | some de =>
    obtain ⟨i, hi⟩ := info_of_underlying hu
    have hsz : P.cellsOf t = i.size := by simp [Program.cellsOf, hi]
    unfold part valT isAggT
    simp only [Sem.run_bind, run_isAgg hu, Result.andThen_ok, hu]
    cases ha : aggD de with
    | true =>
      simp only [if_true, Sem.run_bind, run_sizeOf hi, Result.andThen_ok, Sem.run_pure]
      congr 2
      apply Array.ext'
      simp [hlen, hsz, List.take_drop]
    | false =>
      have h1 : ks.length = 1 := by
        cases d with
        | zero => cases h
        | succ d =>
          unfold flatK at h
          rw [hu] at h
          cases de <;> simp [aggD] at ha <;> (simp only [ckOf, hu] at h; (repeat' split at h) <;> first | (cases h; done) | (cases h; rfl))
      simp only [Bool.false_eq_true, if_false]
      have hlt : off < xs.size := by omega
      rw [Array.getElem?_eq_getElem hlt]
      simp only [Sem.run_pure]
      congr 1
      rw [h1, List.drop_eq_getElem_cons (by simpa using hlt)]
      simp

/-- the rows of a type's cells are compared in order -/
theorem eq_run {P : Program} {w : World} : ∀ (d : Nat) {t : TypeId} {ks : List CK}, flatK P d t = some ks → ∀ (k : Nat) (xs ys : List Value) (r : Bool), AllEq P w ks xs ys r →
    (Op.equalIn (d + k) t (valT P t xs) (valT P t ys)).run P w = .ok r w := by
  intro d
  induction d with
  | zero => intro t ks h; cases h
  | succ d ih =>
    intro t ks h k xs ys r ha
    have hlen := AllEq.len ha
    have hfuel : d + 1 + k = (d + k) + 1 := by omega
    cases hu : P.underlying t with
    | none => simp [flatK, hu, ckOf] at h
    | some de =>
      have scalar : ∀ c, ckOf P t = some c → aggD de = false → ks = [c] → (Op.equalIn (d + 1 + k) t (valT P t xs) (valT P t ys)).run P w = .ok r w := by
        intro c hc hg hk
        subst hk
        match xs, ys, ha with
        | [x], [y], ha =>
          obtain ⟨_, _, h3⟩ := ha
          have e1 : valT P t [x] = x := by simp [valT, isAggT, hu, hg]
          have e2 : valT P t [y] = y := by simp [valT, isAggT, hu, hg]
          rw [e1, e2, hfuel]
          rcases h3 with ⟨hx, hr⟩ | ⟨hx, hr⟩
          · rw [hr]; exact hx _ t hc
          · have : r = true := hr
            rw [this]; exact hx _ t hc
      unfold flatK at h
      rw [hu] at h
      cases de with
      | struct fs =>
        simp only at h
        split at h
        · cases h
        · rename_i hst
          split at h
          · rename_i ls hls
            split at h
            · cases h
              have hst' : P.stoodInHeld t = false := by simpa using hst
              have hfo : P.fieldsOf t = fs := by simp [Program.fieldsOf, hu]
              have e1 : ∀ l, valT P t l = .agg l.toArray := fun l => by simp [valT, isAggT, hu, aggD]
              rw [e1, e1, hfuel, run_equalIn_struct w (d + k) t _ _ (by rw [hfo]; exact hu) hst', hfo]
              -- field by field
              have key : ∀ (fl : List Field) (acc : Nat) (ks : List CK) (r : Bool), flatF P (flatK P d) fl acc = some ks → acc ≤ xs.length → acc ≤ ys.length → AllEq P w ks (xs.drop acc) (ys.drop acc) r →
                  (Op.eqFields (d + k) xs.toArray ys.toArray fl).run P w = .ok r w := by
                intro fl
                induction fl with
                | nil =>
                  intro acc ks r hk _ _ hq
                  cases hk
                  have : (xs.drop acc) = [] ∧ (ys.drop acc) = [] := by
                    have := AllEq.len hq; simp at this
                    exact ⟨List.drop_eq_nil_of_le (by omega), List.drop_eq_nil_of_le (by omega)⟩
                  rw [this.1, this.2] at hq
                  have hr : r = true := hq
                  rw [hr]; simp [Op.eqFields]
                | cons f fl ihf =>
                  intro acc ks r hk hx hy hq
                  unfold flatF at hk
                  split at hk
                  · cases hk
                  · rename_i hn
                    have hn1 : f.name ≠ "_" := fun e => hn (.inl e)
                    have hn2 : f.offset = acc := by
                      rcases Nat.decEq f.offset acc with h | h
                      · exact absurd (.inr h) hn
                      · exact h
                    split at hk
                    · cases hk
                    · rename_i k1 hk1
                      split at hk
                      · cases hk
                      · rename_i k2 hk2
                        cases hk
                        have hl1 := flatK_len d hk1
                        obtain ⟨r1, hq1, hq2⟩ := AllEq.split hq
                        have hlq := AllEq.len hq
                        simp at hlq
                        have p1 := run_part hk1 xs.toArray acc (by simp; omega) w
                        have p2 := run_part hk1 ys.toArray acc (by simp; omega) w
                        have p3 := ih hk1 k _ _ r1 hq1
                        simp only [Op.eqFields, if_pos hn1, Sem.run_bind, hn2, p1, p2, Result.andThen_ok]
                        rw [p3]
                        simp only [Result.andThen_ok]
                        rcases hq2 with ⟨rfl, rfl⟩ | ⟨rfl, hq3⟩
                        · simp
                        · simp only [Bool.not_true, Bool.false_eq_true, if_false]
                          refine ihf _ _ r hk2 (by omega) (by omega) ?_
                          rw [List.drop_drop, List.drop_drop, hl1] at hq3
                          exact hq3
              exact key fs.toList 0 _ r hls (by omega) (by omega) (by simpa using ha)
            · cases h
          · cases h
      | array n e =>
        simp only at h
        split at h
        · rename_i k1 hk1
          split at h
          · cases h
            obtain ⟨ie, hie⟩ : ∃ i, P.info? e = some i := by
              cases d with
              | zero => cases hk1
              | succ d =>
                cases hue : P.underlying e with
                | none => simp [flatK, hue, ckOf] at hk1
                | some de => exact info_of_underlying hue
            have e1 : ∀ l, valT P t l = .agg l.toArray := fun l => by simp [valT, isAggT, hu, aggD]
            have hl1 := flatK_len d hk1
            rw [e1, e1, hfuel, run_equalIn_array w (d + k) _ _ hu hie]
            have key : ∀ (m i : Nat) (r : Bool), i * k1.length ≤ xs.length → i * k1.length ≤ ys.length → AllEq P w (repK k1 m) (xs.drop (i * k1.length)) (ys.drop (i * k1.length)) r →
                (Op.eqItems (d + k) e (P.cellsOf e) xs.toArray ys.toArray (List.range' i m)).run P w = .ok r w := by
              intro m
              induction m with
              | zero =>
                intro i r _ _ hq
                have : (xs.drop (i * k1.length)) = [] ∧ (ys.drop (i * k1.length)) = [] := by
                  have := AllEq.len hq; simp [repK] at this
                  exact ⟨List.drop_eq_nil_of_le (by omega), List.drop_eq_nil_of_le (by omega)⟩
                rw [this.1, this.2] at hq
                have hr : r = true := hq
                rw [hr]; simp [Op.eqItems]
              | succ m ihm =>
                intro i r hx hy hq
                obtain ⟨r1, hq1, hq2⟩ := AllEq.split (k1 := k1) (k2 := repK k1 m) hq
                have hlq := AllEq.len hq
                simp [repK] at hlq
                have p1 := run_part hk1 xs.toArray (i * k1.length) (by simp; omega) w
                have p2 := run_part hk1 ys.toArray (i * k1.length) (by simp; omega) w
                have p3 := ih hk1 k _ _ r1 hq1
                rw [List.range'_succ]
                simp only [Op.eqItems, Sem.run_bind, ← hl1, p1, p2, Result.andThen_ok]
                rw [p3]
                simp only [Result.andThen_ok]
                rcases hq2 with ⟨rfl, rfl⟩ | ⟨rfl, hq3⟩
                · simp
                · simp only [Bool.not_true, Bool.false_eq_true, if_false]
                  rw [hl1]
                  refine ihm (i + 1) r (by rw [Nat.add_mul]; omega) (by rw [Nat.add_mul]; omega) ?_
                  rw [List.drop_drop, List.drop_drop] at hq3
                  rw [Nat.add_mul, Nat.one_mul]
                  exact hq3
            rw [List.range_eq_range']
            exact key n 0 r (by omega) (by omega) (by simpa using ha)
          · cases h
        · cases h
      | _ =>
        simp only at h
        split at h
        · rename_i c hc
          split at h
          · cases h; exact scalar c hc rfl rfl
          · cases h
        · cases h
end Go.Exe
