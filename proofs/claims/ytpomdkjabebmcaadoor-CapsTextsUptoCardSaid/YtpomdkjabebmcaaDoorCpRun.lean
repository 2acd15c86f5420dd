/- The layer caps: what words make of a number, plain. -/
import Derived.Test.YtpomdkjabebmcaaDoorHLl
namespace Go.Proofs.YtpomdkjabebmcaaDoor.X
open Go.Proofs.YtpomdkjabebmcaaDoor.HL
/-- The words of a text: between its spaces. -/
def words : List UInt8 → List (List UInt8)
  | [] => [[]]
  | b :: s => if b = 32 then [] :: words s else match words s with
    | [] => [[b]]
    | w :: ws => (b :: w) :: ws
def headW (b : UInt8) : List (List UInt8) → List (List UInt8)
  | [] => [[b]]
  | w :: ws => (b :: w) :: ws
theorem words_sp (s : List UInt8) : words (32 :: s) = [] :: words s := by rw [words, if_pos rfl]
theorem words_nsp {b : UInt8} (s : List UInt8) (h : b ≠ 32) : words (b :: s) = headW b (words s) := by
  rw [words, if_neg h]
  cases words s <;> rfl
theorem words_ne (s : List UInt8) : words s ≠ [] := by
  cases s with
  | nil => simp [words]
  | cons b s =>
    unfold words
    split
    · simp
    · cases words s <;> simp
theorem words_none {s : List UInt8} (h : 32 ∉ s) : words s = [s] := by
  induction s with
  | nil => rfl
  | cons b s ih =>
    simp only [List.mem_cons, not_or] at h
    rw [words, if_neg (fun e => h.1 e.symm), ih h.2]
theorem words_some {a s : List UInt8} (h : 32 ∉ a) : words (a ++ 32 :: s) = a :: words s := by
  induction a with
  | nil => rw [List.nil_append, words, if_pos rfl]
  | cons b a ih =>
    simp only [List.mem_cons, not_or] at h
    rw [List.cons_append, words, if_neg (fun e => h.1 e.symm), ih h.2]
theorem words_app (a b : List UInt8) : words (a ++ 32 :: b) = words a ++ words b := by
  induction a with
  | nil => rw [List.nil_append, words_sp]; rfl
  | cons x a ih =>
    rw [List.cons_append]
    by_cases hx : x = 32
    · subst hx; rw [words_sp, words_sp, ih]; rfl
    · rw [words_nsp _ hx, words_nsp _ hx, ih]
      cases hw : words a with
      | nil => exact absurd hw (words_ne a)
      | cons w ws => rfl
theorem words_len (s : List UInt8) : (words s).length = s.count 32 + 1 := by
  induction s with
  | nil => rfl
  | cons b s ih =>
    unfold words
    by_cases hb : b = 32
    · rw [if_pos hb]; subst hb; simp [ih]
    · rw [if_neg hb]
      cases hw : words s with
      | nil => exact absurd hw (words_ne s)
      | cons w ws => rw [hw] at ih; simp at ih; simp [hb, ih]
def away : List UInt8 := [97, 119, 97, 121, 45, 110, 111, 116, 105, 102, 121]
def echo : List UInt8 := [101, 99, 104, 111, 45, 109, 101, 115, 115, 97, 103, 101]
def multi : List UInt8 := [109, 117, 108, 116, 105, 45, 112, 114, 101, 102, 105, 120]
def num (w : List UInt8) : Int := if w = away then 1 else if w = echo then 2 else if w = multi then 4 else 0
/-- A word without its sign; is it taken off? -/
def bare (w : List UInt8) : List UInt8 × Bool := match w with
  | b :: s => if b = 45 then (s, true) else (w, false)
  | [] => ([], false)
def step1 (w : List UInt8) (now : Int) : Option Int :=
  if w = [] then some now else if num (bare w).1 = 0 then none else if (bare w).2 = true then some (iandNot .i64 now (num (bare w).1)) else some (ior .i64 now (num (bare w).1))
def run : List (List UInt8) → Int → Option Int
  | [], now => some now
  | w :: ws, now => (step1 w now).bind (run ws)
theorem run_app (a b : List (List UInt8)) (now : Int) : run (a ++ b) now = (run a now).bind (run b) := by
  induction a generalizing now with
  | nil => rfl
  | cons w a ih =>
    rw [List.cons_append, run, run]
    cases step1 w now with
    | none => rfl
    | some m => simp only [Option.bind_some]; exact ih m
/-- Whether a request is refused hangs on its words alone. -/
def okW (w : List UInt8) : Bool := w == [] || num (bare w).1 != 0
theorem run_ok (ws : List (List UInt8)) (now : Int) : (run ws now).isSome = ws.all okW := by
  induction ws generalizing now with
  | nil => rfl
  | cons w ws ih =>
    rw [run, List.all_cons]
    by_cases h0 : w = []
    · have e1 : step1 w now = some now := by unfold step1; rw [if_pos h0]
      have e2 : okW w = true := by simp [okW, h0]
      rw [e1, e2, Option.bind_some, ih, Bool.true_and]
    · by_cases h1 : num (bare w).1 = 0
      · have e1 : step1 w now = none := by unfold step1; rw [if_neg h0, if_pos h1]
        have e2 : okW w = false := by simp [okW, h0, h1]
        rw [e1, e2]; rfl
      · have e2 : okW w = true := by simp [okW, h1]
        obtain ⟨m, e1⟩ : ∃ m, step1 w now = some m := by unfold step1; rw [if_neg h0, if_neg h1]; split <;> exact ⟨_, rfl⟩
        rw [e1, e2, Option.bind_some, ih, Bool.true_and]
/-- What a request answers. -/
def ans (have_ : Int) : Option Int → Int × Bool
  | some m => (m, true)
  | none => (have_, false)
def app (have_ : Int) (x : List UInt8) : Int × Bool := ans have_ (run (words x) have_)
end Go.Proofs.YtpomdkjabebmcaaDoor.X
