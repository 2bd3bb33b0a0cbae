/- Rules to reason about the machine. -/
import Derived.Test.YtcibofbmennjpaaAmE
set_option linter.unusedVariables false
namespace Go.Am

section
variable {G : Nat → List AV} {F : Nat → Option MF}

/-- The code ends, so that Q. -/
def W (G : Nat → List AV) (F : Nat → Option MF) (c : MC) (st : St) (Q : Ex → St → Prop) : Prop := ∃ e st', E G F c st = some (e, st') ∧ Q e st'

variable {st st' : St} {Q Q' : Ex → St → Prop} {a b c : MC}

theorem W.mono (h : W G F a st Q) (hq : ∀ e s, Q e s → Q' e s) : W G F a st Q' := let ⟨e, s, h1, h2⟩ := h; ⟨e, s, h1, hq e s h2⟩

theorem W_skip (h : Q .normal st) : W G F .skip st Q := ⟨_, _, by rw [E_eq]; rfl, h⟩
theorem W_exit {id : Nat} (h : Q (.exit id) st) : W G F (.exit id) st Q := ⟨_, _, by rw [E_eq]; rfl, h⟩
theorem W_ret (h : Q .ret st) : W G F .ret st Q := ⟨_, _, by rw [E_eq]; rfl, h⟩

/-- What follows. -/
def thenQ (K : St → Prop) (Q : Ex → St → Prop) : Ex → St → Prop
  | .normal, s => K s
  | .exit id, s => Q (.exit id) s
  | .ret, s => Q .ret s
@[simp] theorem thenQ_normal (K : St → Prop) (Q : Ex → St → Prop) (s : St) : thenQ K Q .normal s = K s := rfl
@[simp] theorem thenQ_exit (K : St → Prop) (Q : Ex → St → Prop) (id : Nat) (s : St) : thenQ K Q (.exit id) s = Q (.exit id) s := rfl
@[simp] theorem thenQ_ret (K : St → Prop) (Q : Ex → St → Prop) (s : St) : thenQ K Q .ret s = Q .ret s := rfl

theorem W_seq (h : W G F a st (thenQ (fun s => W G F b s Q) Q)) : W G F (.seq a b) st Q := by
  obtain ⟨e, s, h1, h2⟩ := h
  cases e with
  | normal =>
    obtain ⟨e2, s2, h3, h4⟩ := h2
    exact ⟨e2, s2, by rw [E_eq]; simp only [step]; rw [← E_eq, h1]; simp only; rw [← E_eq]; exact h3, h4⟩
  | exit id => exact ⟨_, s, by rw [E_eq]; simp only [step]; rw [← E_eq, h1], h2⟩
  | ret => exact ⟨_, s, by rw [E_eq]; simp only [step]; rw [← E_eq, h1], h2⟩

theorem W_cond {r : R} {t : Bool} (hc : st.ev G r = .bool t) (ht : t = true → W G F a st Q) (hf : t = false → W G F b st Q) : W G F (.cond r a b) st Q := by
  cases t with
  | true =>
    obtain ⟨e, s, h1, h2⟩ := ht rfl
    exact ⟨e, s, by rw [E_eq]; simp only [step, hc, cond_true]; rw [← E_eq]; exact h1, h2⟩
  | false =>
    obtain ⟨e, s, h1, h2⟩ := hf rfl
    exact ⟨e, s, by rw [E_eq]; simp only [step, hc, cond_false]; rw [← E_eq]; exact h1, h2⟩

/-- Out of a block. -/
def outQ (id : Nat) (Q : Ex → St → Prop) : Ex → St → Prop
  | .exit i, s => if i = id then Q .normal s else Q (.exit i) s
  | .normal, s => Q .normal s
  | .ret, s => Q .ret s
@[simp] theorem outQ_normal (id : Nat) (Q : Ex → St → Prop) (s : St) : outQ id Q .normal s = Q .normal s := rfl
@[simp] theorem outQ_ret (id : Nat) (Q : Ex → St → Prop) (s : St) : outQ id Q .ret s = Q .ret s := rfl
@[simp] theorem outQ_exit (id i : Nat) (Q : Ex → St → Prop) (s : St) : outQ id Q (.exit i) s = if i = id then Q .normal s else Q (.exit i) s := rfl

theorem W_block {id : Nat} (h : W G F a st (outQ id Q)) : W G F (.block id a) st Q := by
  obtain ⟨e, s, h1, h2⟩ := h
  cases e with
  | normal => exact ⟨_, s, by rw [E_eq]; simp only [step]; rw [← E_eq, h1], h2⟩
  | ret => exact ⟨_, s, by rw [E_eq]; simp only [step]; rw [← E_eq, h1], h2⟩
  | exit i =>
    by_cases hi : i = id
    · simp only [outQ_exit, hi, if_true] at h2
      exact ⟨_, s, by rw [E_eq]; simp only [step]; rw [← E_eq, h1]; simp only [hi, if_true], h2⟩
    · simp only [outQ_exit, hi, if_false] at h2
      exact ⟨_, s, by rw [E_eq]; simp only [step]; rw [← E_eq, h1]; simp only [hi, if_false], h2⟩

theorem E_loop (a : MC) (st : St) : E G F (.loop a) st = match E G F a st with
    | some (.normal, s) => E G F (.loop a) s
    | r => r := by
  rw [E_eq]
  simp only [step]
  rw [← E_eq]
  rfl

/-- A loop: an invariant that counts down. -/
theorem W_loop (I : Nat → St → Prop) {k : Nat} (h0 : I k st) (hs : ∀ k s, I k s → W G F a s (thenQ (fun s' => ∃ k', k' < k ∧ I k' s') Q)) : W G F (.loop a) st Q := by
  induction k using Nat.strongRecOn generalizing st with
  | _ k ih =>
    obtain ⟨e, s, h1, h2⟩ := hs k st h0
    cases e with
    | normal =>
      obtain ⟨k', hk, hI⟩ := h2
      obtain ⟨e2, s2, h3, h4⟩ := ih k' hk hI
      exact ⟨e2, s2, by rw [E_loop, h1]; exact h3, h4⟩
    | exit id => exact ⟨_, s, by rw [E_loop, h1], h2⟩
    | ret => exact ⟨_, s, by rw [E_loop, h1], h2⟩

theorem W_ops {l : List I} (h : execs G F (E G F) l st = some st') (hq : Q .normal st') : W G F (.ops 0 l) st Q := ⟨_, _, by rw [E_eq]; simp only [step, h]; rfl, hq⟩
theorem W_opsm {m : Nat} {l : List I} (h : execs G F (E G F) l { st with bx := st.bx ++ List.replicate (m + 1) freshBox, rb := st.bx.length } = some st') (hq : Q .normal st') : W G F (.ops (m + 1) l) st Q := ⟨_, _, by rw [E_eq]; simp only [step, h]; rfl, hq⟩
theorem W_opsD {m : Nat} {l : List I} {prs : List (Nat × Nat)} {fps : List Fp} (h : execsF G F (E G F) l { st with bx := st.bx ++ List.replicate m freshBox, rb := st.bx.length } = some (st', fps))
    (ha : (prs.all fun p => (fps.getD p.1 ⟨none, none⟩).apart (fps.getD p.2 ⟨none, none⟩)) = true) (hq : Q .normal st') : W G F (.opsD m l prs) st Q := ⟨_, _, by rw [E_eq]; simp only [step, h, ha, if_true], hq⟩

/-- A function's answer, if its frame ends so that .. -/
theorem runBody_W {mf : MF} {st : St} {R : St → List AV → Prop} (h : W G F mf.body st fun e s => (e = .normal ∨ e = .ret) ∧ ∃ rs, mf.res.mapM (rvar s) = some rs ∧ R s rs) :
    ∃ s rs, runBody (E G F) mf st = some (s, rs) ∧ R s rs := by
  obtain ⟨e, s, h1, he, rs, h2, h3⟩ := h
  refine ⟨s, rs, ?_, h3⟩
  unfold runBody
  rw [h1]
  rcases he with rfl | rfl
  · simp only [h2]; rfl
  · simp only [h2]; rfl

/-- .. a value. -/
theorem pcall_val {f : Nat} {mf : MF} (hf : F f = some mf) {args : List AV} {v : AV} (hv : ∀ id n, v ≠ .own id n)
    (h : W G F mf.body ⟨initTm 0 args .e, [], 0⟩ fun e s => (e = .normal ∨ e = .ret) ∧ ∃ rs, mf.res.mapM (rvar s) = some rs ∧ tuple rs = v) {r : AV} (hr : ∀ bx, reify reifyDepth bx v = some r) {al : Bool} (hal : ∀ bx, alias reifyDepth bx v = al) :
    pcall F (E G F) f args = some (.val r, al) := by
  obtain ⟨s, rs, h1, h2⟩ := runBody_W h
  unfold pcall
  rw [hf]
  simp only [h1, h2]
  cases v with
  | own id n => exact absurd rfl (hv id n)
  | _ => simp only [hr, hal]; rfl

theorem Tm.gs {t : Tm} {k : Nat} {v : AV} {m : Nat} (hk : k < 65535) : (t.set k v).get m = if k = m then v else t.get m := Tm.get_set t k v m hk

/-- A list of ints, as a slice that one reads. -/
def IsInts (v : AV) (l : List Int) : Prop := (v = .nil ∧ l = []) ∨ v = .lst l.length (l.map (.int .i64))
end
end Go.Am
