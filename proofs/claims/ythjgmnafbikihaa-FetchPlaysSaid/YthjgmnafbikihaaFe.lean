/-
  Fetch: wants are sorted.
-/
import Derived.Test.YthjgmnafbikihaaFd
import Derived.Test.YthjgmnafbikihaaShelf
set_option linter.unusedVariables false
set_option linter.unusedSimpArgs false
namespace Go.Proofs.Ythjgmnafbikihaa
open Go.RowKit Go.Sort Go.Lib

/-- a want that is one. -/
abbrev WS := { x : Wt // IsW x }
def zeroK : K := (0, List.replicate 32 0)
theorem zeroK_ok : IsK zeroK := ⟨by decide, by simp [zeroK], fun z hz => by
  rw [(List.mem_replicate.1 hz).2]; decide⟩
instance : Inhabited WS := ⟨⟨(zeroK, zeroK), zeroK_ok, zeroK_ok⟩⟩
def encS (x : WS) : List Value := wcells x.1
def cmpS (x y : WS) : Int := cmpW x.1 y.1
theorem ltS (x y : WS) : ltOf cmpS x y = lessW x.1 y.1 := rfl
theorem swoS : SWO (ltOf cmpS) where
  irrefl x := by rw [ltS]; exact lessW_irr _
  trans x y z h k := by rw [ltS] at *; exact lessW_trans h k
  ntrans x y z h k := by
    rw [ltS] at *
    rw [← Bool.not_eq_true]
    intro hk
    by_cases h1 : lessW y.1 x.1 = true
    · have := lessW_trans h1 hk
      rw [k] at this; cases this
    · have e : x.1 = y.1 := lessW_tot h (by simpa using h1)
      rw [e, k] at hk; cases hk
theorem totS (x y : WS) (h : ltOf cmpS x y = false) (k : ltOf cmpS y x = false) : x = y := Subtype.ext (lessW_tot h k)

theorem cmp_lays (blk off size : Nat) (w : World) : CmpLays Try.prog 26 #[] encS 66 cmpS blk off size w := by
  intro m os dk _ x y
  refine (wcmp_any x.1 y.1 x.2 y.2 _).mono ?_
  rintro e w' ⟨rfl, hL⟩
  exact ⟨rfl, hL.grow_⟩

theorem sort_any (blk off cap : Nat) (d : Array WS) (w : World) (hH : HoldsK encS 66 w blk off d) (hblk : blk < w.heap.size) (hsz : d.size < 4611686018427387904) :
    Calls Try.prog 31 #[.slice (some ⟨blk, off, none⟩) d.size cap, .func (.func 26) #[] #[]] w fun e w' =>
      e = .returned (.tuple #[]) ∧ ∃ n os, w' = sortWorldK encS 66 w blk off n (d.toList.mergeSort fun x y => !(ltOf cmpS) y x).toArray os :=
  AnyQ.slices_SortFunc_total Try.sortW 66 Try.isAgg35 Try.sizeOf35 encS (fun x => wcells_length x.2) (fun x => wcells_ones x.1) cmpS swoS 26 #[] blk off cap d w (enters_of Try.func26 (by kernel_rfl) rfl) (cmp_lays blk off d.size w) hH hblk hsz totS
theorem sort_none (p : Option Addr) (cap : Nat) (w : World) : Calls Try.prog 31 #[.slice p 0 cap, .func (.func 26) #[] #[]] w fun e w' => e = .returned (.tuple #[]) ∧ w' = w :=
  AnyF.slices_SortFunc_none (ρ := Try.sortW_ren) { Try.sortW with } p cap _ w
end Go.Proofs.Ythjgmnafbikihaa
