/-
  Sum.
-/
import Derived.Test.YtehgbpepaakanaaDoorCd
namespace Go.Proofs.YtehgbpepaakanaaDoor
open Go.RowKit Go.Shelf
set_option linter.unusedVariables false
set_option linter.unusedSimpArgs false
set_option maxRecDepth 20000

attribute [local go_sem] Oper.semAt_some

def ad (s : Int × Int) (c : Int) : Int × Int := (s.1 + c, s.2 + (s.1 + c))
def adler (bs : List Int) : Int × Int := bs.foldl ad (1, 0)
/-- The check sum of bytes. -/
def sumOf (bs : List Int) : Int := ((adler bs).2 % 65521) * 65536 + (adler bs).1 % 65521
def red (s : Int × Int) : Int × Int := (s.1 % 65521, s.2 % 65521)

theorem red_ad (s : Int × Int) (c : Int) : red (ad (red s) c) = red (ad s c) := by
  simp only [red, ad, Prod.mk.injEq]
  constructor <;> omega
theorem red_fold (bs : List Int) (s : Int × Int) : red (bs.foldl ad (red s)) = red (bs.foldl ad s) := by
  induction bs generalizing s with
  | nil => simp only [List.foldl_nil, red, Prod.mk.injEq]; constructor <;> omega
  | cons c r ih =>
    simp only [List.foldl_cons]
    rw [← ih (ad (red s) c), red_ad, ih]
theorem fold_fst (bs : List Int) (s : Int × Int) : (bs.foldl ad s).1 = s.1 + bs.sum := by
  induction bs generalizing s with
  | nil => simp
  | cons c r ih => simp only [List.foldl_cons, ih, ad, List.sum_cons]; omega

/-- Bytes. -/
def Byts (bs : List Int) : Prop := ∀ x ∈ bs, 0 ≤ x ∧ x < 256
theorem Byts.take {bs : List Int} (h : Byts bs) (n : Nat) : Byts (bs.take n) := fun x hx => h x (List.mem_of_mem_take hx)
theorem Byts.drop {bs : List Int} (h : Byts bs) (n : Nat) : Byts (bs.drop n) := fun x hx => h x (List.mem_of_mem_drop hx)
theorem fold_le (bs : List Int) (s : Int × Int) (B : Int) (hb : Byts bs) (h1 : 0 ≤ s.1) (h2 : 0 ≤ s.2) :
    0 ≤ (bs.foldl ad s).1 ∧ (bs.foldl ad s).1 ≤ s.1 + 255 * bs.length ∧ 0 ≤ (bs.foldl ad s).2 := by
  induction bs generalizing s with
  | nil => simp; omega
  | cons c r ih =>
    have hc := hb c (List.mem_cons_self ..)
    have := ih (ad s c) (fun x hx => hb x (List.mem_cons_of_mem _ hx)) (by simp only [ad]; omega) (by simp only [ad]; omega)
    simp only [List.foldl_cons, List.length_cons]
    simp only [ad] at this ⊢
    refine ⟨this.1, ?_, this.2.2⟩
    have := this.2.1
    push_cast
    omega
theorem fold_le2 (bs : List Int) (s : Int × Int) (M : Int) (hb : Byts bs) (h1 : 0 ≤ s.1) (hM : s.1 + 255 * bs.length ≤ M) :
    (bs.foldl ad s).2 ≤ s.2 + M * bs.length := by
  induction bs generalizing s with
  | nil => simp
  | cons c r ih =>
    have hc := hb c (List.mem_cons_self ..)
    simp only [List.length_cons] at hM
    push_cast at hM
    have := ih (ad s c) (fun x hx => hb x (List.mem_cons_of_mem _ hx)) (by simp only [ad]; omega) (by simp only [ad]; omega)
    simp only [List.foldl_cons, List.length_cons]
    simp only [ad] at this ⊢
    push_cast
    have e : M * ((r.length : Int) + 1) = M * r.length + M := by rw [Int.mul_add, Int.mul_one]
    rw [e]
    omega

end Go.Proofs.YtehgbpepaakanaaDoor
