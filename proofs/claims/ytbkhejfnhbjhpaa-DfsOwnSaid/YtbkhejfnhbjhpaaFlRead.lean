/- Lists in memory that are read: integers, pairs; graphs. -/
import Derived.Test.YtbkhejfnhbjhpaaFlMore
set_option linter.unusedVariables false
set_option linter.unusedSimpArgs false
namespace Go.Fl
open Go

/-- The cells from A on are these values. -/
def Rd (w : World) (A : Option Addr) (vs : List Value) : Prop := ∀ j u, vs[j]? = some u → ∃ ad, A = some ad ∧ w.cell? (ad.add j) = some u
def ints (xs : List Int) : List Value := xs.map (Value.int .i64)
abbrev Pr := Int × Int
def prs : List Pr → List Value
  | [] => []
  | e :: r => .int .i64 e.1 :: .int .i64 e.2 :: prs r
@[simp] theorem ints_length (xs : List Int) : (ints xs).length = xs.length := by simp [ints]
@[simp] theorem prs_length (es : List Pr) : (prs es).length = es.length * 2 := by
  induction es with
  | nil => rfl
  | cons e r ih => simp [prs, ih, Nat.succ_mul]
theorem ints_get {xs : List Int} {i : Nat} {x : Int} (h : xs[i]? = some x) : (ints xs)[i]? = some (.int .i64 x) := by simp [ints, h]
theorem prs_get : ∀ {es : List Pr} {i : Nat} {e : Pr}, es[i]? = some e → (prs es)[i * 2]? = some (.int .i64 e.1) ∧ (prs es)[i * 2 + 1]? = some (.int .i64 e.2)
  | [], i, e, h => by simp at h
  | x :: r, 0, e, h => by simp at h; subst h; simp [prs]
  | x :: r, i + 1, e, h => by
    simp at h
    have := prs_get h
    rw [Nat.succ_mul]
    exact ⟨by simpa [prs] using this.1, by simpa [prs] using this.2⟩
theorem prs_append (a b : List Pr) : prs (a ++ b) = prs a ++ prs b := by
  induction a with
  | nil => rfl
  | cons e r ih => simp [prs, ih]
theorem ints_append (a b : List Int) : ints (a ++ b) = ints a ++ ints b := by simp [ints]
theorem ints_one (a b : List Int) : ∀ u, u ∈ ints a → u.oneCell' = true := by
  intro u hu; simp [ints] at hu; obtain ⟨x, _, rfl⟩ := hu; rfl
theorem prs_one : ∀ (es : List Pr) u, u ∈ prs es → u.oneCell' = true
  | [], u, h => by cases h
  | e :: r, u, h => by
    simp [prs] at h
    rcases h with rfl | rfl | h
    · rfl
    · rfl
    · exact prs_one r u h

section
variable {w0 w : World} {K : List Nat} {L : List Chunk} {A : Option Addr} {vs : List Value}
theorem Rd.keep (h : Rd w0 A vs) (hk : ∀ ad, A = some ad → ad.block ∉ K) (hw : Own w0 K w L) : Rd w A vs := by
  intro j u hj
  obtain ⟨ad, rfl, hc⟩ := h j u hj
  refine ⟨ad, rfl, ?_⟩
  have hb : (ad.add j).block = ad.block := by unfold Addr.add; split <;> rfl
  rw [hw.oldCell (World.block_lt_of_cell? w0 _ hc) (by rw [hb]; exact hk ad rfl)]; exact hc
theorem Rd.keep0 (h : Rd w0 A vs) (hw : Own w0 [] w L) : Rd w A vs := h.keep (fun _ _ => by simp) hw
theorem Rd.pair {es : List Pr} {i : Nat} {e : Pr} (h : Rd w0 A (prs es)) (hi : es[i]? = some e) : ∃ ad, A = some ad ∧ w0.cell? (ad.add (i * 2)) = some (.int .i64 e.1) ∧ w0.cell? (ad.add (i * 2 + 1)) = some (.int .i64 e.2) := by
  obtain ⟨h1, h2⟩ := prs_get hi
  obtain ⟨ad, rfl, hc1⟩ := h _ _ h1
  obtain ⟨ad', he, hc2⟩ := h _ _ h2
  cases he
  exact ⟨ad, rfl, hc1, hc2⟩
theorem Rd.int {xs : List Int} {i : Nat} {x : Int} (h : Rd w0 A (ints xs)) (hi : xs[i]? = some x) : ∃ ad, A = some ad ∧ w0.cell? (ad.add i) = some (.int .i64 x) := h _ _ (ints_get hi)
theorem add_add (ad : Addr) (i j : Nat) (h : 0 < j) : (ad.add i).add j = ad.add (i + j) := by
  have h1 : ¬ j = 0 := by omega
  have h2 : ¬ i + j = 0 := by omega
  unfold Addr.add
  rw [if_neg h1, if_neg h2]
  split
  · rename_i hi; subst hi; simp
  · simp [Nat.add_assoc]
theorem hass2 {ad : Addr} {i : Nat} {x y : Value} (h1 : w0.cell? (ad.add i) = some x) (h2 : w0.cell? (ad.add (i + 1)) = some y) (hk : ad.block ∉ K) : Hass w0 K L (ad.add i) [x, y] := by
  have hb : (ad.add i).block = ad.block := by unfold Addr.add; split <;> rfl
  refine hass_old (fun j u hj => ?_) (by rw [hb]; exact hk)
  match j, hj with
  | 0, hj =>
    simp at hj; subst hj
    have : (ad.add i).add 0 = ad.add i := by simp [Addr.add]
    rw [this]; exact h1
  | 1, hj => simp at hj; subst hj; rw [add_add _ _ _ (by omega)]; exact h2
theorem hass_rd {A : Option Addr} {vs : List Value} {ad : Addr} (h : Rd w0 A vs) (hA : A = some ad) (hk : ad.block ∉ K) : Hass w0 K L ad vs := by
  subst hA
  refine hass_old (fun j u hj => ?_) hk
  obtain ⟨ad', he, hc⟩ := h j u hj
  cases he; exact hc
theorem src_rd {vs : List Value} {k c m : Nat} (h : Rd w0 A vs) (hl : vs.length = k * m) (hk : ∀ ad, A = some ad → ad.block ∉ K) (hA : A = none → k = 0) : Src w0 K L (.slice A k c) k vs := by
  cases A with
  | none =>
    have h0 := hA rfl
    subst h0
    exact .inr ⟨c, rfl, rfl, List.eq_nil_of_length_eq_zero (by simpa using hl)⟩
  | some ad => exact .inl ⟨ad, c, rfl, hass_rd h rfl (hk ad rfl)⟩
end

/-! ### graphs -/
structure OkE (N : Int) (e : Pr) : Prop where
  lo : 0 ≤ e.1
  lt : e.1 < e.2
  hi : e.2 < N
def Lex (a b : Pr) : Prop := a.1 < b.1 ∨ (a.1 = b.1 ∧ a.2 < b.2)
structure Vld (N : Int) (es : List Pr) : Prop where
  lo : 0 ≤ N
  hi : N ≤ 1048576
  few : es.length ≤ 4194304
  ok : ∀ (i : Nat) e, es[i]? = some e → OkE N e
  up : ∀ (i : Nat) a b, es[i]? = some a → es[i + 1]? = some b → Lex a b
end Go.Fl
