/-
  Fetch: the table and the dice as a law holds them.
-/
import Derived.Test.YthjgmnafbikihaaFp
import Derived.Test.YthjgmnafbikihaaFq
set_option linter.unusedSimpArgs false
set_option linter.unusedVariables false
namespace Go.Proofs.Ythjgmnafbikihaa
open Go.RowKit Go.Maps Go.Sort

theorem Two.blk {w w' : World} {b d k : Nat} {t : TypeId} {cs : Array Value} (h : Two w w' b d) (hk : Blk w k t cs) (h1 : k ≠ b) (h2 : k ≠ d) : Blk w' k t cs := (h.block k hk.lt h1 h2).trans hk
structure HT (w0 w : World) (g b : Nat) (base most budget : Int) (E : En) : Prop where
  tb : Tb w g b base most budget E
  ok : OkE budget E
  nk : newOk base most budget
  g0 : w0.heap.size ≤ g
  b0 : w0.heap.size ≤ b
  below : Below w0.heap.size w0 w
structure HD (w0 w : World) (g b d : Nat) (base most budget : Int) (E : En) (s : Int) : Prop where
  ht : HT w0 w g b base most budget E
  die : Blk w d 67 #[.int .u64 s]
  d0 : w0.heap.size ≤ d

theorem ok_ins {budget : Int} {E : En} {x : WS} (h : OkE budget E) (hb : 0 ≤ budget) : OkE budget (stE E x) := by
  unfold stE
  split
  · exact h
  · intro p hp
    rcases mem_ins.1 hp with rfl | hp
    · simp only; omega
    · exact h p hp
theorem ok_dn {budget : Int} {E : En} {x : WS} (h : OkE budget E) : OkE budget (dnE E x) := by
  unfold dnE
  split
  · exact fun p hp => h p (mem_del.1 hp).1
  · exact h
theorem below_grown {w0 w w' : World} {b : Nat} (h : Below w0.heap.size w0 w) (hg : w.grownBy w' (some b)) (hb : w0.heap.size ≤ b) : Below w0.heap.size w0 w' :=
  h.grown hg h.size (fun k e => by injection e with e; omega)
theorem below_two {w0 w w' : World} {b d : Nat} (h : Below w0.heap.size w0 w) (t : Two w w' b d) (hb : w0.heap.size ≤ b) (hd : w0.heap.size ≤ d) : Below w0.heap.size w0 w' :=
  ⟨t.os.trans h.os, t.tape.trans h.tape, t.output.trans h.output, Nat.le_trans h.size t.size, fun k hk => (t.block k (Nat.lt_of_lt_of_le hk h.size) (by omega) (by omega)).trans (h.block k hk)⟩
theorem tab_ne {w : World} {b d : Nat} {E : En} {t : TypeId} {cs : Array Value} (h : Tab w b E) (hd : Blk w d t cs) : b ≠ d := by
  rintro rfl
  obtain ⟨D, ⟨es, c, hb, _⟩, _⟩ := h
  have h1 : w.heap[b]? = _ := hd
  rw [hb] at h1
  injection h1 with h1
  cases h1

section
variable {w0 w : World} {g b d : Nat} {base most budget : Int} {E : En} {s : Int}
theorem ht_new (w0 w : World) (base most budget : Int) (hB : Below w0.heap.size w0 w) (h : newOk base most budget) :
    Calls Try.prog 9 #[.int .i64 base, .int .i64 most, .int .i64 budget] w fun e w' => ∃ g b, e = .returned (.tuple #[.pointer (some ⟨g, 0, none⟩), .int .i64 0]) ∧ HT w0 w' g b base most budget [] ∧ Below w.heap.size w w' := by
  refine (new_ok base most budget w h).mono ?_
  rintro e w' ⟨g, b, rfl, htt, hg, hb, hBl⟩
  exact ⟨g, b, rfl, ⟨htt, (fun p hp => by cases hp), h, Nat.le_trans hB.size hg, Nat.le_trans hB.size hb, hB.trans (hBl.mono hB.size)⟩, hBl⟩
theorem HT.below_ (h : HT w0 w g b base most budget E) {w' : World} (hB : Below w.heap.size w w') : HT w0 w' g b base most budget E :=
  ⟨h.tb.all hB, h.ok, h.nk, h.g0, h.b0, h.below.trans (hB.mono h.below.size)⟩
theorem HD.below_ (h : HD w0 w g b d base most budget E s) {w' : World} (hB : Below w.heap.size w w') : HD w0 w' g b d base most budget E s :=
  ⟨h.ht.below_ hB, h.die.below hB h.die.lt, h.d0⟩
theorem ht_start (h : HT w0 w g b base most budget E) (hE : E.length < maxLen) (x : WS) :
    Calls Try.prog 11 #[.pointer (some ⟨g, 0, none⟩), wv x] w fun e w' => e = .returned (.bool (!(lk E x).isSome)) ∧ HT w0 w' g b base most budget (stE E x) ∧ w.grownBy w' (some b) := by
  refine (start_any g b base most budget E x w h.tb hE).mono ?_
  rintro e w' ⟨rfl, ht, hg⟩
  have := h.nk.2.2.2.2.1
  exact ⟨rfl, ⟨ht, ok_ins h.ok (by omega), h.nk, h.g0, h.b0, below_grown h.below hg h.b0⟩, hg⟩
theorem ht_dice (h : HT w0 w g b base most budget E) (s : Int) :
    Calls Try.prog 10 #[.int .u64 s] w fun e w' => ∃ d, e = .returned (.pointer (some ⟨d, 0, none⟩)) ∧ HD w0 w' g b d base most budget E s ∧ Below w.heap.size w w' ∧ d = w.heap.size := by
  refine (new_any s w).mono ?_
  rintro e w' ⟨rfl, rfl⟩
  have hB : Below w.heap.size w (w.alloc (.cells #[.int .u64 s] 67)) := (Below.refl _ w).alloc (Nat.le_refl _) _
  exact ⟨w.heap.size, rfl, ⟨h.below_ hB, Blk.new w 67 _, h.below.size⟩, hB, rfl⟩
theorem hd_start (h : HD w0 w g b d base most budget E s) (hE : E.length < maxLen) (x : WS) :
    Calls Try.prog 11 #[.pointer (some ⟨g, 0, none⟩), wv x] w fun e w' => e = .returned (.bool (!(lk E x).isSome)) ∧ HD w0 w' g b d base most budget (stE E x) s ∧ w.grownBy w' (some b) := by
  refine (ht_start h.ht hE x).mono ?_
  rintro e w' ⟨rfl, ht, hg⟩
  exact ⟨rfl, ⟨ht, h.die.grown hg (fun e => tab_ne h.ht.tb.tab h.die (by injection e with e; exact e.symm)), h.d0⟩, hg⟩
theorem hd_done (h : HD w0 w g b d base most budget E s) (x : WS) :
    Calls Try.prog 17 #[.pointer (some ⟨g, 0, none⟩), wv x] w fun e w' => e = .returned (.bool (lk E x).isSome) ∧ HD w0 w' g b d base most budget (dnE E x) s ∧ w.grownBy w' (some b) := by
  refine (done_any g b base most budget E x w h.ht.tb).mono ?_
  rintro e w' ⟨rfl, ht, hg⟩
  exact ⟨rfl, ⟨⟨ht, ok_dn h.ht.ok, h.ht.nk, h.ht.g0, h.ht.b0, below_grown h.ht.below hg h.ht.b0⟩, h.die.grown hg (fun e => tab_ne h.ht.tb.tab h.die (by injection e with e; exact e.symm)), h.d0⟩, hg⟩
theorem hd_has (h : HD w0 w g b d base most budget E s) (x : WS) :
    Calls Try.prog 13 #[.pointer (some ⟨g, 0, none⟩), wv x] w fun e w' => e = .returned (.bool (lk E x).isSome) ∧ HD w0 w' g b d base most budget E s ∧ Below w.heap.size w w' := by
  refine (has_any g b base most budget E x w h.ht.tb).mono ?_
  rintro e w' ⟨rfl, hB⟩
  exact ⟨rfl, h.below_ hB, hB⟩
/-- a row of wants, with where it lies. -/
theorem own_slice {w : World} {base : Nat} {v : Value} {ss : List WS} (h : w.ownsRow base 35 66 v ss.length (wrow ss)) : ∃ A c, v = .slice A ss.length c := by
  rcases h.2 with ⟨rfl, h0⟩ | ⟨kb, cap, cur, rfl, _⟩
  · exact ⟨none, 0, by rw [h0]⟩
  · exact ⟨_, _, rfl⟩
theorem hd_open (h : HD w0 w g b d base most budget E s) (hE : E.length ≤ 1000000) :
    Calls Try.prog 14 #[.pointer (some ⟨g, 0, none⟩)] w fun e w' => ∃ A c, e = .returned (.slice A E.length c) ∧ w'.ownsRow w.heap.size 35 66 (.slice A E.length c) E.length (wrow (keysE E)) ∧ HD w0 w' g b d base most budget E s ∧ Below w.heap.size w w' := by
  refine (open_any g b base most budget E w h.ht.tb hE).mono ?_
  rintro e w' ⟨v, rfl, hr, hB⟩
  obtain ⟨A, c, rfl⟩ : ∃ A c, v = .slice A E.length c := by
    have hl : E.length = (keysE E).length := by simp [keysE]
    rw [hl] at hr ⊢
    exact own_slice hr
  exact ⟨A, c, rfl, hr, h.below_ hB, hB⟩
theorem hd_tick (h : HD w0 w g b d base most budget E s) (hE : E.length ≤ 1000) (t : Tk) (ht : tick base most budget E s = t) :
    Calls Try.prog 12 #[.pointer (some ⟨g, 0, none⟩), .pointer (some ⟨d, 0, none⟩)] w fun e w' => ∃ A c A' c' m, e = .returned (.tuple #[.slice A t.asks.length c, .slice A' t.lost.length c']) ∧
      w'.ownsRow m 35 66 (.slice A t.asks.length c) t.asks.length (wrow t.asks) ∧ w'.ownsRow m 35 66 (.slice A' t.lost.length c') t.lost.length (wrow t.lost) ∧ w.heap.size ≤ m ∧ HD w0 w' g b d base most budget t.P t.s ∧ Two w w' b d := by
  refine (tick_any g b d base most budget E s w h.ht.nk hE h.ht.ok h.ht.tb h.die).mono ?_
  rintro e w' ⟨av, lv, m, rfl, kv, R, hok⟩
  rw [ht] at R hok
  obtain ⟨A, c, rfl⟩ := own_slice R.asks_
  obtain ⟨A', c', rfl⟩ := own_slice R.lost_
  exact ⟨A, c, A', c', m, rfl, R.asks_, R.lost_, R.m1, ⟨⟨⟨R.blk, R.tab, R.srt⟩, hok, h.ht.nk, h.ht.g0, h.ht.b0, below_two h.ht.below R.frame h.ht.b0 h.d0⟩, R.die, h.d0⟩, R.frame⟩
end

/-! one want alone -/
def toE (x : WS) : Option St → En
  | none => []
  | some st => [(x, st)]
def o1 (most budget : Int) : Option St → Option St × Bool × Bool
  | none => (none, false, false)
  | some (tr, lf) => if 0 < lf - 1 then (some (tr, lf - 1), false, false) else if tr = budget then (none, false, true) else (some (tr + 1, wait 1 most tr), true, false)
theorem tick_one (most budget : Int) (x : WS) (o : Option St) (s : Int) :
    tick 1 most budget (toE x o) s = ⟨toE x (o1 most budget o).1, s, if (o1 most budget o).2.1 then [x] else [], if (o1 most budget o).2.2 then [x] else []⟩ := by
  cases o with
  | none => rfl
  | some st =>
    obtain ⟨tr, lf⟩ := st
    unfold toE tick o1
    simp only [List.foldl_cons, List.foldl_nil, tstep]
    by_cases h1 : 0 < lf - 1
    · simp only [if_pos h1]; rfl
    · by_cases h2 : tr = budget
      · simp only [if_neg h1, if_pos h2]; rfl
      · have e1 : belV s 1 = 0 := rfl
        have e2 : belS s 1 = s := rfl
        simp only [if_neg h1, if_neg h2, e1, e2, Int.add_zero]; rfl
theorem lk_toE (x : WS) (o : Option St) : (lk (toE x o) x).isSome = o.isSome := by
  cases o <;> simp [toE, lk]
end Go.Proofs.Ythjgmnafbikihaa
