/-
  Plain: stretches.
-/
import Derived.Test.YthbifkeadbmcnaaStr4
set_option linter.unusedVariables false
set_option linter.unusedSimpArgs false
namespace Go.Proofs.Ythbifkeadbmcnaa
open Go Go.AW

/-- a set that counts, and where -/
structure Stretch where
  x : SetS
  f : Int
  t : Int
abbrev Stretch.cells (s : Stretch) : List Value := [ptrV s.x.id, .int .i64 s.f, .int .i64 s.t]
def pushS (out : List Stretch) (x : SetS) (f t : Int) : List Stretch :=
  match out.getLast? with
  | some y => if y.x.id = x.id ∧ y.t = f then out.dropLast ++ [⟨y.x, y.f, t⟩] else out ++ [⟨x, f, t⟩]
  | none => [⟨x, f, t⟩]
def stepS (W : List SetS) (out : List Stretch) (f t : Int) : List Stretch :=
  match W.find? fun x => reaches x.k f t with
  | none => out
  | some x => pushS out x f t
def strFrom (W : List SetS) : Int → List Int → List Stretch → List Stretch
  | _, [], out => out
  | f, t :: T, out => strFrom W t T (stepS W out f t)
def strT (W : List SetS) : List Int → List Stretch
  | [] => []
  | f :: T => strFrom W f T []
theorem strFrom_snoc (W : List SetS) (t2 : Int) : ∀ (T : List Int) (f t1 : Int) (out : List Stretch), strFrom W f (T ++ [t1, t2]) out = stepS W (strFrom W f (T ++ [t1]) out) t1 t2
  | [], f, t1, out => rfl
  | t :: T, f, t1, out => by simp only [List.cons_append, strFrom]; exact strFrom_snoc W t2 T t t1 _
/-- one time more -/
theorem strT_take (W : List SetS) {T : List Int} {i : Nat} {f t : Int} (hf : T[i]? = some f) (ht : T[i + 1]? = some t) : strT W (T.take (i + 2)) = stepS W (strT W (T.take (i + 1))) f t := by
  rw [take_get ht, take_get hf, List.append_assoc]
  cases i with
  | zero =>
    cases T with
    | nil => simp at hf
    | cons a T => rfl
  | succ i =>
    cases T with
    | nil => simp at hf
    | cons a T =>
      simp only [List.take_succ_cons, List.cons_append, List.singleton_append, strT]
      exact strFrom_snoc W t (T.take i) a f []
theorem pushS_len (out : List Stretch) (x : SetS) (f t : Int) : (pushS out x f t).length ≤ out.length + 1 := by
  unfold pushS
  split
  · split
    · simp
    · simp
  · simp
theorem stepS_len (W : List SetS) (out : List Stretch) (f t : Int) : (stepS W out f t).length ≤ out.length + 1 := by
  unfold stepS
  split
  · omega
  · exact pushS_len _ _ _ _
theorem strFrom_len (W : List SetS) : ∀ (T : List Int) (f : Int) (out : List Stretch), (strFrom W f T out).length ≤ out.length + T.length
  | [], _, out => by simp [strFrom]
  | t :: T, f, out => by
    have := strFrom_len W T t (stepS W out f t)
    have := stepS_len W out f t
    simp only [strFrom, List.length_cons]
    omega
theorem strT_len (W : List SetS) (T : List Int) : (strT W T).length ≤ T.length := by
  cases T with
  | nil => simp [strT]
  | cons f T => have := strFrom_len W T f []; simp only [strT, List.length_cons, List.length_nil] at *; omega
end Go.Proofs.Ythbifkeadbmcnaa
