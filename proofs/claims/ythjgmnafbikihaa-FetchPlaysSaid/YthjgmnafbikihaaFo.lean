/-
  Fetch: a tick, in plain; what holds of the world while it goes through the wants.
-/
import Derived.Test.YthjgmnafbikihaaFn
set_option linter.unusedSimpArgs false
set_option linter.unusedVariables false
namespace Go.Proofs.Ythjgmnafbikihaa
open Go.RowKit Go.Maps Go.Sort

structure Tk where
  P : En
  s : Int
  asks : List WS
  lost : List WS
def belS (s n : Int) : Int := if n < 2 then s else nx s
def belV (s n : Int) : Int := if n < 2 then 0 else vl s % n
def wait (base most tr : Int) : Int := if most < base * 2 ^ tr.toNat then most else base * 2 ^ tr.toNat
def tstep (base most budget : Int) (t : Tk) (e : WS × St) : Tk :=
  if 0 < e.2.2 - 1 then ⟨t.P ++ [(e.1, (e.2.1, e.2.2 - 1))], t.s, t.asks, t.lost⟩
  else if e.2.1 = budget then ⟨t.P, t.s, t.asks, t.lost ++ [e.1]⟩
  else ⟨t.P ++ [(e.1, (e.2.1 + 1, wait base most e.2.1 + belV t.s base))], belS t.s base, t.asks ++ [e.1], t.lost⟩
def tick (base most budget : Int) (E : En) (s : Int) : Tk := E.foldl (tstep base most budget) ⟨[], s, [], []⟩
def OkE (budget : Int) (E : En) : Prop := ∀ p ∈ E, 0 ≤ p.2.1 ∧ p.2.1 ≤ budget ∧ 1 ≤ p.2.2 ∧ p.2.2 ≤ 1100
/-- how far it is. -/
def tk (base most budget : Int) (E : En) (s : Int) (i : Nat) : Tk := tick base most budget (E.take i) s
theorem tk_zero (base most budget : Int) (E : En) (s : Int) : tk base most budget E s 0 = ⟨[], s, [], []⟩ := rfl
theorem tk_succ {base most budget : Int} {E R : En} {s : Int} {i : Nat} {e : WS × St} (h : E.drop i = e :: R) : tk base most budget E s (i + 1) = tstep base most budget (tk base most budget E s i) e ∧ E.drop (i + 1) = R := by
  have hi : i < E.length := by
    rcases Nat.lt_or_ge i E.length with h1 | h1
    · exact h1
    · rw [List.drop_eq_nil_of_le h1] at h; cases h
  have h1 := List.drop_eq_getElem_cons hi
  rw [h] at h1
  injection h1 with h1 h2
  refine ⟨?_, h2.symm⟩
  unfold tk tick
  rw [List.take_succ_eq_append_getElem hi, List.foldl_append, h1]
  rfl
theorem tk_all (base most budget : Int) (E : En) (s : Int) : tk base most budget E s E.length = tick base most budget E s := by unfold tk; rw [List.take_length]

section
variable {x : WS} {s s' : St} {P R : En}
theorem srt_mid (h : Srt (P ++ (x, s) :: R)) : x ∉ keysE P ∧ x ∉ keysE R ∧ Srt (P ++ (x, s') :: R) ∧ Srt (P ++ R) := by
  have hn := srt_nodup h
  simp only [keysE, List.map_append, List.map_cons] at hn
  rw [List.nodup_append] at hn
  obtain ⟨_, h2, h3⟩ := hn
  refine ⟨fun hm => h3 x hm x (by simp) rfl, (List.nodup_cons.1 h2).1, ?_, ?_⟩
  · unfold Srt at h ⊢
    rw [List.pairwise_append] at h ⊢
    obtain ⟨a1, a2, a3⟩ := h
    obtain ⟨b1, b2⟩ := List.pairwise_cons.1 a2
    refine ⟨a1, List.pairwise_cons.2 ⟨b1, b2⟩, fun p hp q hq => ?_⟩
    rcases List.mem_cons.1 hq with rfl | hq
    · exact a3 p hp (x, s) (by simp)
    · exact a3 p hp q (by simp [hq])
  · exact List.Pairwise.sublist (List.Sublist.append_left (List.sublist_cons_self _ _) P) h
theorem lk_mid (h : x ∉ keysE P) (y : WS) : lk (P ++ (x, s) :: R) y = if y = x then some s else lk (P ++ R) y := by
  induction P with
  | nil => simp [lk]
  | cons p P ih =>
    obtain ⟨z, t⟩ := p
    simp only [keysE, List.map_cons, List.mem_cons, not_or] at h
    simp only [List.cons_append, lk, ih h.2]
    by_cases h1 : y = z
    · subst h1
      simp [Ne.symm h.1]
    · simp [h1]
theorem lk_out (h : x ∉ keysE P) (h2 : x ∉ keysE R) : lk (P ++ R) x = none := by
  refine lk_none ?_
  simp only [keysE, List.map_append, List.mem_append, not_or]
  exact ⟨h, h2⟩
end

theorem wait_le {base most tr : Int} (h1 : 1 ≤ base) (h2 : base ≤ most) : 1 ≤ wait base most tr ∧ wait base most tr ≤ most := by
  have hp : (0 : Int) < 2 ^ tr.toNat := Int.pow_pos (by decide)
  have hp : (1 : Int) ≤ 2 ^ tr.toNat := hp
  have hb : base ≤ base * 2 ^ tr.toNat := by
    calc base = base * 1 := by omega
      _ ≤ base * 2 ^ tr.toNat := Int.mul_le_mul_of_nonneg_left hp (by omega)
  unfold wait
  split <;> omega
theorem belV_lt {s n : Int} (h : 1 ≤ n) : 0 ≤ belV s n ∧ belV s n < n := by
  unfold belV
  split
  · omega
  · exact ⟨Int.emod_nonneg _ (by omega), Int.emod_lt_of_pos _ (by omega)⟩
theorem ok_step {base most budget : Int} (hb : newOk base most budget) {t : Tk} {e : WS × St} {R : En} (h : OkE budget (t.P ++ e :: R)) : OkE budget ((tstep base most budget t e).P ++ R) := by
  obtain ⟨x, tr, lf⟩ := e
  obtain ⟨a1, a2, a3, a4, a5, a6⟩ := hb
  have he := h (x, (tr, lf)) (by simp)
  simp only at he
  have hw := wait_le (tr := tr) a1 a3
  have hv := belV_lt (s := t.s) a1
  intro p hp
  unfold tstep at hp
  simp only at hp
  split at hp
  · simp only [List.append_assoc, List.cons_append, List.nil_append, List.mem_append, List.mem_cons] at hp
    rcases hp with hp | rfl | hp
    · exact h p (by simp [hp])
    · simp only; omega
    · exact h p (by simp [hp])
  · split at hp
    · rcases List.mem_append.1 hp with hp | hp
      · exact h p (by simp [hp])
      · exact h p (by simp [hp])
    · simp only [List.append_assoc, List.cons_append, List.nil_append, List.mem_append, List.mem_cons] at hp
      rcases hp with hp | rfl | hp
      · exact h p (by simp [hp])
      · simp only; omega
      · exact h p (by simp [hp])
theorem tk_len (base most budget : Int) (E : En) (s : Int) (i : Nat) : (tk base most budget E s i).asks.length ≤ i ∧ (tk base most budget E s i).lost.length ≤ i ∧ (tk base most budget E s i).P.length ≤ i := by
  induction i with
  | zero => simp [tk_zero]
  | succ i ih =>
    by_cases hi : i < E.length
    · rw [(tk_succ (List.drop_eq_getElem_cons hi)).1]
      unfold tstep
      split
      · simp only [List.length_append, List.length_cons, List.length_nil]; omega
      · split
        · simp only [List.length_append, List.length_cons, List.length_nil]; omega
        · simp only [List.length_append, List.length_cons, List.length_nil]; omega
    · have : tk base most budget E s (i + 1) = tk base most budget E s i := by
        unfold tk
        rw [List.take_of_length_le (by omega), List.take_of_length_le (by omega)]
      rw [this]; omega

theorem bel_any (d : Nat) (s n : Int) (w : World) (h1 : 1 ≤ n) (hm : n ≤ 1000) (h : Blk w d 67 #[.int .u64 s]) :
    Calls Try.prog 23 #[.pointer (some ⟨d, 0, none⟩), .int .i64 n] w fun e w' => e = .returned (.int .i64 (belV s n)) ∧ Blk w' d 67 #[.int .u64 (belS s n)] ∧ w.grownBy w' (some d) := by
  by_cases hn : n < 2
  · refine (bel_lo n w hn _).mono ?_
    rintro e w' ⟨rfl, rfl⟩
    exact ⟨by rw [belV, if_pos hn], by rw [belS, if_pos hn]; exact h, ⟨rfl, rfl, rfl, Nat.le_refl _, fun _ _ _ => rfl⟩⟩
  · refine (bel_hi d s n w (by omega) (by omega) (h.cell 0) (h.frozen 0)).mono ?_
    rintro e w' ⟨rfl, rfl⟩
    exact ⟨by rw [belV, if_neg hn], by rw [belS, if_neg hn]; exact h.set_ 0 _, ⟨rfl, rfl, rfl, by simp, fun k _ hk => Below.heap_setCell w _ _ k (fun e => hk (by rw [e]))⟩⟩

structure Two (w0 w : World) (b d : Nat) : Prop where
  os : w.os = w0.os
  tape : w.tape = w0.tape
  output : w.output = w0.output
  size : w0.heap.size ≤ w.heap.size
  block : ∀ k, k < w0.heap.size → k ≠ b → k ≠ d → w.heap[k]? = w0.heap[k]?
theorem Two.grown {w0 w w' : World} {b d : Nat} {row : Option Nat} (h : Two w0 w b d) (hg : w.grownBy w' row) (hr : ∀ k, row = some k → k = b ∨ k = d ∨ w0.heap.size ≤ k) : Two w0 w' b d :=
  ⟨hg.os.trans h.os, hg.tape.trans h.tape, hg.output.trans h.output, Nat.le_trans h.size hg.size, fun k hk h1 h2 =>
    (hg.block k (Nat.lt_of_lt_of_le hk h.size) (fun e => by rcases hr k e.symm with r | r | r <;> omega)).trans (h.block k hk h1 h2)⟩

theorem wrow_snoc (ss : List WS) (x : WS) : wrow (ss ++ [x]) = wrow ss ++ encS x := by simp [wrow]
structure RI (w0 w : World) (g b d m : Nat) (base most budget : Int) (kv av lv : Value) (ks : List WS) (M : En) (s : Int) (asks lost : List WS) : Prop where
  blk : Blk w g 65 (tbCells base most budget b)
  tab : Tab w b M
  srt : Srt M
  die : Blk w d 67 #[.int .u64 s]
  keys : w.ownsRow w0.heap.size 35 66 kv ks.length (wrow ks)
  asks_ : w.ownsRow m 35 66 av asks.length (wrow asks)
  lost_ : w.ownsRow m 35 66 lv lost.length (wrow lost)
  apart : ∀ k, av.ownBlock = some k → lv.ownBlock ≠ some k
  low : ∀ k, kv.ownBlock = some k → k < m
  frame : Two w0 w b d
  m1 : w0.heap.size ≤ m
  m2 : m ≤ w.heap.size
  gl : g < w0.heap.size
  bl : b < w0.heap.size
  dl : d < w0.heap.size
  gd : g ≠ d
  gb : g ≠ b
  bd : b ≠ d
theorem own_ne {v : Value} {row : Option Nat} (h : ∀ k, row = some k → v.ownBlock ≠ some k) : v.ownBlock = none ∨ v.ownBlock ≠ row := by
  cases hv : v.ownBlock with
  | none => exact .inl rfl
  | some k => exact .inr (fun e => h k e.symm hv)
section
variable {w0 w w' : World} {g b d m : Nat} {base most budget : Int} {kv av lv av' : Value} {ks : List WS} {M M' : En} {s s' : Int} {asks lost : List WS} {x : WS}
theorem RI.kept (h : RI w0 w g b d m base most budget kv av lv ks M s asks lost) {row : Option Nat} (hg : w.grownBy w' row)
    (hr : ∀ k, row = some k → w0.heap.size ≤ k ∧ kv.ownBlock ≠ some k ∧ av.ownBlock ≠ some k ∧ lv.ownBlock ≠ some k) : RI w0 w' g b d m base most budget kv av lv ks M s asks lost :=
  ⟨h.blk.grown hg (fun e => by have := (hr g e.symm).1; have := h.gl; omega), h.tab.kept hg (fun e => by have := (hr b e.symm).1; have := h.bl; omega), h.srt,
   h.die.grown hg (fun e => by have := (hr d e.symm).1; have := h.dl; omega), h.keys.kept hg (own_ne fun k e => (hr k e).2.1), h.asks_.kept hg (own_ne fun k e => (hr k e).2.2.1), h.lost_.kept hg (own_ne fun k e => (hr k e).2.2.2),
   h.apart, h.low, h.frame.grown hg (fun k e => .inr (.inr (hr k e).1)), h.m1, Nat.le_trans h.m2 hg.size, h.gl, h.bl, h.dl, h.gd, h.gb, h.bd⟩
theorem RI.below (h : RI w0 w g b d m base most budget kv av lv ks M s asks lost) (hB : Below w.heap.size w w') : RI w0 w' g b d m base most budget kv av lv ks M s asks lost :=
  h.kept (grown_below hB none) (fun k e => by cases e)
theorem low_ne {v : Value} {base e size n : Nat} {xs : List Value} {k : Nat} (h : w.ownsRow base e size v n xs) (hk : k < base) : v.ownBlock ≠ some k := fun e => by
  have := (h.lt k e).1; omega
theorem RI.map (h : RI w0 w g b d m base most budget kv av lv ks M s asks lost) (ht : Tab w' b M') (hs : Srt M') (hg : w.grownBy w' (some b)) : RI w0 w' g b d m base most budget kv av lv ks M' s asks lost :=
  have hm := h.m1
  have hb := h.bl
  ⟨h.blk.grown hg (fun e => h.gb (by injection e)), ht, hs, h.die.grown hg (fun e => h.bd (by injection e with e; exact e.symm)),
   h.keys.kept hg (own_ne fun k e => by cases e; exact low_ne h.keys hb), h.asks_.kept hg (own_ne fun k e => by cases e; exact low_ne h.asks_ (by omega)), h.lost_.kept hg (own_ne fun k e => by cases e; exact low_ne h.lost_ (by omega)),
   h.apart, h.low, h.frame.grown hg (fun k e => by cases e; exact .inl rfl), h.m1, Nat.le_trans h.m2 hg.size, h.gl, h.bl, h.dl, h.gd, h.gb, h.bd⟩
theorem RI.dice (h : RI w0 w g b d m base most budget kv av lv ks M s asks lost) (hd : Blk w' d 67 #[.int .u64 s']) (hg : w.grownBy w' (some d)) : RI w0 w' g b d m base most budget kv av lv ks M s' asks lost :=
  have hm := h.m1
  have hb := h.dl
  ⟨h.blk.grown hg (fun e => h.gd (by injection e)), h.tab.kept hg (fun e => h.bd (by injection e)), h.srt, hd,
   h.keys.kept hg (own_ne fun k e => by cases e; exact low_ne h.keys hb), h.asks_.kept hg (own_ne fun k e => by cases e; exact low_ne h.asks_ (by omega)), h.lost_.kept hg (own_ne fun k e => by cases e; exact low_ne h.lost_ (by omega)),
   h.apart, h.low, h.frame.grown hg (fun k e => by cases e; exact .inr (.inl rfl)), h.m1, Nat.le_trans h.m2 hg.size, h.gl, h.bl, h.dl, h.gd, h.gb, h.bd⟩
theorem RI.ask (h : RI w0 w g b d m base most budget kv av lv ks M s asks lost) (hn : w'.ownsRow m 35 66 av' (asks.length + 1) (wrow asks ++ encS x)) (hg : w.grownBy w' av.ownBlock) (ha : av'.ownBlock = av.ownBlock ∨ av'.ownBlock = some w.heap.size) :
    RI w0 w' g b d m base most budget kv av' lv ks M s (asks ++ [x]) lost :=
  have hm := h.m1
  have h1 := h.gl
  have h2 := h.bl
  have h3 := h.dl
  have hlo : ∀ k, k < m → av.ownBlock ≠ some k := fun k hk => low_ne h.asks_ hk
  ⟨h.blk.grown hg (fun e => hlo g (by omega) e.symm), h.tab.kept hg (fun e => hlo b (by omega) e.symm), h.srt, h.die.grown hg (fun e => hlo d (by omega) e.symm),
   h.keys.kept hg (own_ne fun k e e' => hlo k (h.low k e') e), by rw [wrow_snoc]; simpa using hn, h.lost_.kept hg (own_ne fun k e => h.apart k e),
   fun k e e' => by
     rcases ha with ha | ha
     · exact h.apart k (ha ▸ e) e'
     · rw [ha] at e; injection e with e; have := (h.lost_.lt k e').2; omega,
   h.low, h.frame.grown hg (fun k e => .inr (.inr (by have := (h.asks_.lt k e).1; omega))), h.m1, Nat.le_trans h.m2 hg.size, h.gl, h.bl, h.dl, h.gd, h.gb, h.bd⟩
theorem RI.lose (h : RI w0 w g b d m base most budget kv av lv ks M s asks lost) (hn : w'.ownsRow m 35 66 av' (lost.length + 1) (wrow lost ++ encS x)) (hg : w.grownBy w' lv.ownBlock) (ha : av'.ownBlock = lv.ownBlock ∨ av'.ownBlock = some w.heap.size) :
    RI w0 w' g b d m base most budget kv av av' ks M s asks (lost ++ [x]) :=
  have hm := h.m1
  have h1 := h.gl
  have h2 := h.bl
  have h3 := h.dl
  have hlo : ∀ k, k < m → lv.ownBlock ≠ some k := fun k hk => low_ne h.lost_ hk
  ⟨h.blk.grown hg (fun e => hlo g (by omega) e.symm), h.tab.kept hg (fun e => hlo b (by omega) e.symm), h.srt, h.die.grown hg (fun e => hlo d (by omega) e.symm),
   h.keys.kept hg (own_ne fun k e e' => hlo k (h.low k e') e), h.asks_.kept hg (own_ne fun k e e' => h.apart k e' e), by rw [wrow_snoc]; simpa using hn,
   fun k e e' => by
     rcases ha with ha | ha
     · exact h.apart k e (ha ▸ e')
     · rw [ha] at e'; injection e' with e'; have := (h.asks_.lt k e).2; omega,
   h.low, h.frame.grown hg (fun k e => .inr (.inr (by have := (h.lost_.lt k e).1; omega))), h.m1, Nat.le_trans h.m2 hg.size, h.gl, h.bl, h.dl, h.gd, h.gb, h.bd⟩
/-- one of the keys, in its place. -/
theorem RI.key (h : RI w0 w g b d m base most budget kv av lv ks M s asks lost) {i : Nat} (hi : i < ks.length) : ∃ kb cap, kv = .slice (some ⟨kb, 0, none⟩) ks.length cap ∧ w.rangeAt kb (i * 66) (encS (ks.getD i default)) := by
  rcases h.keys.2 with ⟨_, h0⟩ | ⟨kb, cap, cur, rfl, _, hb, r1, r2, r3, r4⟩
  · omega
  · refine ⟨kb, cap, rfl, fun j v hv => ?_⟩
    have hj : j < 66 := by
      have := (List.getElem?_eq_some_iff.1 hv).1
      have h1 : (encS (ks.getD i default)).length = 66 := wcells_length (ks.getD i default).2
      omega
    have e1 := wrow_get (ss := ks) hi hj
    rw [hv, ← r4, List.getElem?_take_of_lt (by omega), Array.getElem?_toList] at e1
    simp [World.cell?, hb, e1]
end
end Go.Proofs.Ythjgmnafbikihaa
