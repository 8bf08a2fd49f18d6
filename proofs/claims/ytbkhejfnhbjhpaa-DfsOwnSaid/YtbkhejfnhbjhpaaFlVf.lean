/- dfs.Valid as functions on lists. -/
import Derived.Test.YtbkhejfnhbjhpaaFlRws
set_option linter.unusedVariables false
set_option linter.unusedSimpArgs false
namespace Go.Fl
open Go

def wr (x : Int) : Int := IntKind.i64.wrap x
def placesF (N : Int) : List Int → Int → List Int → Option (List Int)
  | [], _, at' => some at'
  | v :: r, i, at' => if v < 0 ∨ N ≤ v ∨ 0 ≤ getI at' v then none else placesF N r (i + 1) (at'.set v.toNat i)
theorem placesF_cons (N v i : Int) (r at' : List Int) : placesF N (v :: r) i at' = if v < 0 ∨ N ≤ v ∨ 0 ≤ getI at' v then none else placesF N r (i + 1) (at'.set v.toNat i) := rfl
def hangB (es : List Pr) (pa he oi : List Int) (v : Int) : Bool :=
  if getI pa v = -1 then decide (getI he v = 0) else
  if getI pa v < 0 ∨ 2 * (es.length : Int) ≤ getI pa v ∨ getI oi (getI pa v / 2) ≠ getI pa v then false else
  decide (toV es (getI pa v) = v ∧ getI he v = wr (getI he (fromV es (getI pa v)) + 1))
def hangsF (es : List Pr) (pa he oi : List Int) (N : Nat) : Bool := (List.range N).all fun v => hangB es pa he oi v
def szF (es : List Pr) (pa od at' : List Int) : Nat → List Int → List Int → Option (List Int × List Int)
  | 0, sz, la => some (sz, la)
  | k + 1, sz, la =>
    if getI la (getI od k) ≠ wr (wr (getI at' (getI od k) + getI sz (getI od k)) - 1) then none else
    if getI pa (getI od k) < 0 then szF es pa od at' k sz la else
    if (k : Int) ≤ getI at' (fromV es (getI pa (getI od k))) then none else
    szF es pa od at' k (sz.set (fromV es (getI pa (getI od k))).toNat (wr (getI sz (fromV es (getI pa (getI od k))) + getI sz (getI od k))))
      (la.set (fromV es (getI pa (getI od k))).toNat (max (getI la (fromV es (getI pa (getI od k)))) (getI la (getI od k))))
def leadF (es : List Pr) (pa at' la : List Int) : Int → List Int → Bool
  | _, [] => true
  | e, h :: r => if h ≠ 2 * e ∧ h ≠ 2 * e + 1 then false else
    if getI pa (toV es h) ≠ h ∧ (getI at' (fromV es h) ≤ getI at' (toV es h) ∨ getI la (toV es h) < getI at' (fromV es h)) then false else leadF es pa at' la (e + 1) r
theorem szF_succ (es : List Pr) (pa od at' : List Int) (k : Nat) (sz la : List Int) : szF es pa od at' (k + 1) sz la =
    if getI la (getI od k) ≠ wr (wr (getI at' (getI od k) + getI sz (getI od k)) - 1) then none else
    if getI pa (getI od k) < 0 then szF es pa od at' k sz la else
    if (k : Int) ≤ getI at' (fromV es (getI pa (getI od k))) then none else
    szF es pa od at' k (sz.set (fromV es (getI pa (getI od k))).toNat (wr (getI sz (fromV es (getI pa (getI od k))) + getI sz (getI od k))))
      (la.set (fromV es (getI pa (getI od k))).toNat (max (getI la (fromV es (getI pa (getI od k)))) (getI la (getI od k)))) := rfl
theorem leadF_cons (es : List Pr) (pa at' la : List Int) (e h : Int) (r : List Int) : leadF es pa at' la e (h :: r) = if h ≠ 2 * e ∧ h ≠ 2 * e + 1 then false else
    if getI pa (toV es h) ≠ h ∧ (getI at' (fromV es h) ≤ getI at' (toV es h) ∨ getI la (toV es h) < getI at' (fromV es h)) then false else leadF es pa at' la (e + 1) r := rfl
structure Len (N : Int) (m : Nat) (pa he od oi : List Int) : Prop where
  pa : (pa.length : Int) = N
  he : (he.length : Int) = N
  od : (od.length : Int) = N
  oi : oi.length = m
open Classical in
noncomputable def validF (N : Int) (es : List Pr) (pa he od oi : List Int) : Bool :=
  if Vld N es ∧ Len N es.length pa he od oi then
    match placesF N od 0 (List.replicate N.toNat (-1)) with
    | none => false
    | some at' => hangsF es pa he oi N.toNat &&
      match szF es pa od at' N.toNat (List.replicate N.toNat 1) at' with
      | none => false
      | some (_, la) => leadF es pa at' la 0 oi
  else false
theorem getI_set {l : List Int} {i j x : Int} (h0 : 0 ≤ i) (h1 : i.toNat < l.length) (h2 : 0 ≤ j) : getI (l.set i.toNat x) j = if j = i then x else getI l j := by
  unfold getI
  by_cases h : j = i
  · subst h; rw [if_pos rfl, List.getElem?_set_self h1]; rfl
  · rw [if_neg h, List.getElem?_set_ne (by omega)]
theorem fromV_range {N h : Int} {es : List Pr} (hv : Vld N es) (h0 : 0 ≤ h) (h1 : h < es.length * 2) : 0 ≤ fromV es h ∧ fromV es h < N := by
  have ht := toV_range hv (tw_range h0 h1).1 (tw_range h0 h1).2
  have : toV es (tw h) = fromV es h := by unfold toV; rw [if_pos (tw_range h0 h1).1, tw_tw]
  rwa [this] at ht
/-- A cell of a list of the caller's. -/
theorem SlV.cell {w : World} {v : Value} {xs : List Int} {i : Int} (h : SlV w v xs) (h0 : 0 ≤ i) (h1 : i < xs.length) : ∃ ad cap, v = .slice (some ad) xs.length cap ∧ w.cell? (ad.add i.toNat) = some (.int .i64 (getI xs i)) := by
  obtain ⟨A, cap, rfl, hr, _⟩ := h
  obtain ⟨ad, rfl, hc⟩ := hr.int (getI_some (l := xs) (i := i) (by omega))
  exact ⟨ad, cap, rfl, hc⟩
end Go.Fl
