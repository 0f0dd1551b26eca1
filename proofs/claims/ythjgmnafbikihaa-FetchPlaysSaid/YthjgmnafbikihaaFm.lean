/-
  Fetch: Start, Done.
-/
import Derived.Test.YthjgmnafbikihaaFl
import Derived.StillTailTactics
set_option linter.unusedSimpArgs false
set_option linter.unusedVariables false
namespace Go.Proofs.Ythjgmnafbikihaa
open Go.RowKit Go.Maps Go.Sort

theorem still_load {P : Program} {o : Oper} {a : Act} {w : World} {next : Act → Prop} (t : TypeId) (x : Operand) (addr v : Value) (ho : o.op = .load t x) (hx : a.eval x = addr) (hl : (Instr.loadAt t addr).run P w = .ok v w) (h : next (a.put o.dst v)) : o.still P a w next := by
  unfold Oper.still execOp
  simp [ho, hx, hl, Oper.stillUpon, Result.andThen]
  exact h
theorem wpList_unguard {P : Program} {ops : Array Oper} {Q : Exit → Act → World → Prop} {a : Act} {w : World} {rest : List Oper} {o : Oper}
    (hw : Region.wanted o (yielded ops a.tmps) = true) (h : wpList P ops Q ({ o with guard := none } :: rest) a w) : wpList P ops Q (o :: rest) a w := by
  simp only [wpList, hw] at h ⊢
  exact h
section
variable {ops : Array Oper} {rest : List Oper} {o : Oper} {a : Act} {w : World} {Q : Exit → Act → World → Prop} {b : Nat} {E : En}
theorem wpList_put (x : WS) (s : St) (E' : En) (hg : o.guard = none) (mo xo vo : Operand) (hop : o.op = Op.mapUpdate 63 mo xo vo) (hm : a.eval mo = .map (some b)) (hx : a.eval xo = wv x) (hvv : a.eval vo = sv s) (h : Tab w b E)
    (hs : lk E' x = some s) (ho : ∀ y, y ≠ x → lk E' y = lk E y) (hl : E'.length = if (lk E x).isSome then E.length else E.length + 1) (hE : E.length < maxLen)
    (hK : ∀ w', Tab w' b E' → w.grownBy w' (some b) → wpList Try.prog ops Q rest (a.put o.dst undef) w') : wpList Try.prog ops Q (o :: rest) a w := by
  refine wpList_plain hg fun K' hK' => ?_
  obtain ⟨w', hrun, r1, r2⟩ := h.put x s E' hs ho hl hE
  unfold Oper.wp
  simp [execOp, hop, hm, hx, hvv, hrun, Result.andThen]
  exact hK' _ _ (hK w' r1 r2)
theorem wpList_drop (x : WS) (E' : En) (hg : o.guard = none) (mo xo : Operand) (hop : o.op = Op.call { callee := Callee.builtin Builtin.delete, args := #[mo, xo], argTypes := #[63, 35] }) (hm : a.eval mo = .map (some b)) (hx : a.eval xo = wv x) (h : Tab w b E)
    (hs : lk E' x = none) (ho : ∀ y, y ≠ x → lk E' y = lk E y) (hl : E'.length + (if (lk E x).isSome then 1 else 0) = E.length)
    (hK : ∀ w', Tab w' b E' → w.grownBy w' (some b) → wpList Try.prog ops Q rest (a.put o.dst (.tuple #[])) w') : wpList Try.prog ops Q (o :: rest) a w := by
  refine wpList_plain hg fun K' hK' => ?_
  obtain ⟨w', hrun, r1, r2⟩ := h.drop x E' hs ho hl o.type
  unfold Oper.wp
  simp [execOp, hop, resolve, invoke, builtin, hm, hx, hrun, Result.andThen]
  exact hK' _ _ (hK w' r1 r2)
end

/-- one more, in its place. -/
def ins (x : WS) (s : St) : En → En
  | [] => [(x, s)]
  | (y, t) :: E => if lessW x.1 y.1 = true then (x, s) :: (y, t) :: E else (y, t) :: ins x s E
def del (x : WS) (E : En) : En := E.filter (fun p => decide (p.1 ≠ x))
theorem lk_ins (x : WS) (s : St) (E : En) : ∀ y, lk (ins x s E) y = if y = x then (if (lk E x).isSome ∧ ¬ (ins x s E).length = E.length + 1 then lk (ins x s E) y else lk (ins x s E) y) else lk E y := by
  intro y
  split
  · split <;> rfl
  · rename_i h
    induction E with
    | nil => simp [ins, lk, h]
    | cons p E ih =>
      obtain ⟨z, t⟩ := p
      unfold ins
      split
      · simp [lk, h]
      · simp only [lk, ih]
theorem lk_ins_same {x : WS} {s : St} {E : En} (h : x ∉ keysE E) : lk (ins x s E) x = some s := by
  induction E with
  | nil => simp [ins, lk]
  | cons p E ih =>
    obtain ⟨z, t⟩ := p
    unfold ins
    simp only [keysE, List.map_cons, List.mem_cons, not_or] at h
    split
    · simp [lk]
    · rw [lk, if_neg h.1, ih h.2]
theorem ins_length (x : WS) (s : St) (E : En) : (ins x s E).length = E.length + 1 := by
  induction E with
  | nil => rfl
  | cons p E ih =>
    obtain ⟨z, t⟩ := p
    unfold ins
    split
    · rfl
    · simp [ih]
theorem mem_ins {x : WS} {s : St} {E : En} {p : WS × St} : p ∈ ins x s E ↔ p = (x, s) ∨ p ∈ E := by
  induction E with
  | nil => simp [ins]
  | cons q E ih =>
    obtain ⟨z, t⟩ := q
    unfold ins
    split
    · simp
    · simp only [List.mem_cons, ih]
      constructor
      · rintro (h | h | h) <;> simp [h]
      · rintro (h | h | h) <;> simp [h]
theorem srt_ins {x : WS} {s : St} {E : En} (hE : Srt E) (h : x ∉ keysE E) : Srt (ins x s E) := by
  induction E with
  | nil => exact List.pairwise_singleton _ _
  | cons q E ih =>
    obtain ⟨z, t⟩ := q
    simp only [keysE, List.map_cons, List.mem_cons, not_or] at h
    obtain ⟨h1, h2⟩ := List.pairwise_cons.1 hE
    unfold ins
    split
    · rename_i hl
      refine List.pairwise_cons.2 ⟨fun p hp => ?_, hE⟩
      rcases List.mem_cons.1 hp with rfl | hp
      · exact hl
      · exact lessW_trans hl (h1 p hp)
    · rename_i hl
      refine List.pairwise_cons.2 ⟨fun p hp => ?_, ih h2 h.2⟩
      rcases mem_ins.1 hp with rfl | hp
      · cases e : lessW z.1 x.1 with
        | true => rfl
        | false => exact absurd (totS x z (by rw [ltS]; simpa using hl) (by rw [ltS]; exact e)) h.1
      · exact h1 p hp
theorem lk_del (x : WS) (E : En) (y : WS) : lk (del x E) y = if y = x then none else lk E y := by
  induction E with
  | nil => simp [del, lk]
  | cons q E ih =>
    obtain ⟨z, t⟩ := q
    unfold del at ih ⊢
    by_cases e : z = x
    · subst e
      rw [List.filter_cons_of_neg (by simp), ih]
      split
      · rfl
      · rw [lk, if_neg (by assumption)]
    · rw [List.filter_cons_of_pos (by simpa using e), lk, lk, ih]
      by_cases h1 : y = x
      · subst h1
        simp [Ne.symm e, e]
      · simp [h1]
theorem srt_del {x : WS} {E : En} (h : Srt E) : Srt (del x E) := List.Pairwise.filter _ h
theorem mem_del {x : WS} {E : En} {p : WS × St} : p ∈ del x E ↔ p ∈ E ∧ p.1 ≠ x := by simp [del]
theorem del_length {x : WS} {E : En} (h : Srt E) : (del x E).length + (if (lk E x).isSome then 1 else 0) = E.length := by
  induction E with
  | nil => simp [del, lk]
  | cons q E ih =>
    obtain ⟨z, t⟩ := q
    have hn := srt_nodup h
    obtain ⟨h1, h2⟩ := List.pairwise_cons.1 h
    have i := ih h2
    unfold del at i ⊢
    by_cases e : z = x
    · subst e
      rw [List.filter_cons_of_neg (by simp)]
      have : lk E z = none := lk_none (by simp only [keysE, List.map_cons, List.nodup_cons] at hn; exact hn.1)
      rw [this] at i
      simp [lk] at i ⊢
      omega
    · rw [List.filter_cons_of_pos (by simpa using e), lk, if_neg (Ne.symm e)]
      simp only [List.length_cons]
      omega

def stE (E : En) (x : WS) : En := if (lk E x).isSome then E else ins x (0, 1) E
theorem has_blk {w : World} {g b : Nat} {base most budget : Int} {E' : En} {w2 : World} (h : Blk w g 65 (tbCells base most budget b)) (hne : g ≠ b) (ht : Tab w2 b E') (hs : Srt E') (hg : w.grownBy w2 (some b)) : Tb w2 g b base most budget E' :=
  ⟨h.grown hg (fun e => hne (by injection e)), ht, hs⟩
theorem grown_gb {w a a' : World} {b : Nat} (h : Below w.heap.size w a) (g : a.grownBy a' (some b)) : w.grownBy a' (some b) :=
  ⟨g.os.trans h.os, g.tape.trans h.tape, g.output.trans h.output, Nat.le_trans h.size g.size, fun k hk hne => (g.block k (Nat.lt_of_lt_of_le hk h.size) hne).trans (h.block k hk)⟩

set_option maxRecDepth 100000 in
set_option maxHeartbeats 1000000 in
theorem start_any (g b : Nat) (base most budget : Int) (E : En) (x : WS) (w : World) (h : Tb w g b base most budget E) (hE : E.length < maxLen) :
    Calls Try.prog 11 #[.pointer (some ⟨g, 0, none⟩), wv x] w fun e w' => e = .returned (.bool (!(lk E x).isSome)) ∧ Tb w' g b base most budget (stE E x) ∧ w.grownBy w' (some b) := by
  obtain ⟨il, hil⟩ : ∃ il, encS x = il := ⟨_, rfl⟩
  have hwv : wv x = .agg il.toArray := by rw [← hil]; rfl
  have hi35 : (Try.prog.info? 35).map (·.size) = some il.toArray.size := by rw [← hil]; exact size35 x
  obtain ⟨W, hW⟩ : ∃ W, W = w.alloc (.cells il.toArray 35) := ⟨_, rfl⟩
  have hB : Below w.heap.size w W := by rw [hW]; exact (Below.refl _ w).alloc (Nat.le_refl _) _
  have hT := h.all hB
  have hbk : Blk W w.heap.size 35 il.toArray := by rw [hW]; exact Blk.new w 35 _
  have hr0 : W.rangeAt w.heap.size 0 il := by simpa using hbk.range
  have c1 := has_any g b base most budget E x W hT
  rw [hwv] at c1 ⊢
  have C1 := Lib.hid c1
  have HB := Lib.hid hB
  have HT := Lib.hid hT
  have HBK := Lib.hid hbk
  have HX := Lib.hid hwv
  have HI := Lib.hid hi35
  have HG := Lib.hid h.gb
  have HR0 := Lib.hid hr0
  clear c1 hB hT hbk hwv hil hi35 h hr0
  go_enter Try.func11, Try.ntmps11
  rw [hW] at HR0
  go_wp2_with (first
    | (refine wpList_unguard (by kernel_rfl) ?_; refine wpList_load_range 35 (.tmp 3) w.heap.size 0 il.toArray _ rfl rfl rfl Try.underlying35 rfl HI.out HR0.out ?_))
  rw [← hW]
  obtain ⟨bx, hbx⟩ : ∃ k, k = w.heap.size := ⟨_, rfl⟩
  rw [← hbx]
  rw [← hbx] at HBK
  clear hbx HR0
  refine C1.out.mono ?_
  rintro e w1 ⟨rfl, hB1⟩
  have hT1 := HT.out.all hB1
  cases hl : (lk E x).isSome with
  | true =>
    have HS := Lib.hid hT1
    have HB2 := Lib.hid (grown_below (HB.out.trans (hB1.mono HB.out.size)) (some b))
    have HL := Lib.hid hl
    clear hT1 hB1 hl
    go_wp2_with fail
    go_ret
    exact ⟨by rw [HL.out]; rfl, by rw [stE, if_pos HL.out]; exact HS.out, HB2.out⟩
  | false =>
    have hT2 : Tb w1.drew g b base most budget E := hT1.all (below_dr (Below.refl _ _))
    have hBd : Below w.heap.size w w1.drew := below_dr (HB.out.trans (hB1.mono HB.out.size))
    have hc := (tb_cells hT2.blk).2.2.2
    have hl2 := run_loadAt_mid w1.drew bx 0 35 il _ (by have := ((HBK.out.below hB1 HBK.out.lt).below (below_dr (Below.refl w1.heap.size w1)) (HBK.out.below hB1 HBK.out.lt).lt).range; simpa using this) Try.underlying35 rfl (by simpa using HI.out)
    have HT2 := Lib.hid hT2
    have HBd := Lib.hid hBd
    have HL := Lib.hid hl
    have hz := Try.zeroValue69
    clear hT1 hB1 hl hT2 hBd
    go_wp2_with fail
    refine wp_region_still_tail 6 (by kernel_rfl) (by kernel_rfl) ?_
    simp only [List.take_succ_cons, List.take_zero, List.drop_succ_cons, List.drop_zero]
    change wpStill _ _ (World.drew _) (fun a' => wpList _ _ _ _ a' (World.drew _)) _ _
    generalize w1.drew = W2 at hc hl2 HT2 HBd
    iterate 4 (still_step)
    refine wpStill_step (fun K hK => ?_)
    rw [if_pos (by rfl)]
    refine still_load 35 _ _ (.agg il.toArray) rfl rfl hl2 ?_
    go_simp
    refine hK _ ?_
    clear hK K hl2
    still_step
    refine wpStill_nil ?_
    have hni : x ∉ keysE E := fun hm => by rw [lk_mem.2 hm] at HL; cases HL.out
    refine wpList_put x (0, 1) (ins x (0, 1) E) rfl _ _ _ rfl rfl HX.out.symm rfl HT2.out.tab (lk_ins_same hni) (fun y hy => by rw [lk_ins, if_neg hy]) (by rw [ins_length, HL.out]; simp) hE ?_
    intro w2 ht2 hg2
    have hT3 : Tb w2 g b base most budget (ins x (0, 1) E) := has_blk HT2.out.blk HG.out ht2 (srt_ins HT2.out.srt hni) hg2
    have hg3 := grown_gb HBd.out hg2
    have HT3 := Lib.hid hT3
    have HG3 := Lib.hid hg3
    clear hT3 hg3 ht2 hg2 hc
    go_wp2_with fail
    go_ret
    exact ⟨by rw [HL.out]; rfl, by rw [stE, if_neg (by rw [HL.out]; simp)]; exact HT3.out, HG3.out⟩

def dnE (E : En) (x : WS) : En := if (lk E x).isSome then del x E else E
set_option maxRecDepth 100000 in
set_option maxHeartbeats 1000000 in
theorem done_any (g b : Nat) (base most budget : Int) (E : En) (x : WS) (w : World) (h : Tb w g b base most budget E) :
    Calls Try.prog 17 #[.pointer (some ⟨g, 0, none⟩), wv x] w fun e w' => e = .returned (.bool (lk E x).isSome) ∧ Tb w' g b base most budget (dnE E x) ∧ w.grownBy w' (some b) := by
  obtain ⟨il, hil⟩ : ∃ il, encS x = il := ⟨_, rfl⟩
  have hwv : wv x = .agg il.toArray := by rw [← hil]; rfl
  have hi35 : (Try.prog.info? 35).map (·.size) = some il.toArray.size := by rw [← hil]; exact size35 x
  obtain ⟨W, hW⟩ : ∃ W, W = w.alloc (.cells il.toArray 35) := ⟨_, rfl⟩
  have hB : Below w.heap.size w W := by rw [hW]; exact (Below.refl _ w).alloc (Nat.le_refl _) _
  have hT := h.all hB
  have hbk : Blk W w.heap.size 35 il.toArray := by rw [hW]; exact Blk.new w 35 _
  have hr0 : W.rangeAt w.heap.size 0 il := by simpa using hbk.range
  have c1 := has_any g b base most budget E x W hT
  rw [hwv] at c1 ⊢
  have C1 := Lib.hid c1
  have HB := Lib.hid hB
  have HT := Lib.hid hT
  have HBK := Lib.hid hbk
  have HX := Lib.hid hwv
  have HI := Lib.hid hi35
  have HG := Lib.hid h.gb
  have HR0 := Lib.hid hr0
  clear c1 hB hT hbk hwv hil hi35 h hr0
  go_enter Try.func17, Try.ntmps17
  rw [hW] at HR0
  go_wp2_with (first
    | (refine wpList_load_range 35 (.tmp 3) w.heap.size 0 il.toArray _ rfl rfl rfl Try.underlying35 rfl HI.out HR0.out ?_))
  rw [← hW]
  obtain ⟨bx, hbx⟩ : ∃ k, k = w.heap.size := ⟨_, rfl⟩
  rw [← hbx]
  rw [← hbx] at HBK
  clear hbx HR0
  refine C1.out.mono ?_
  rintro e w1 ⟨rfl, hB1⟩
  have hT1 := HT.out.all hB1
  cases hl : (lk E x).isSome with
  | false =>
    have HS := Lib.hid hT1
    have HB2 := Lib.hid (grown_below (HB.out.trans (hB1.mono HB.out.size)) (some b))
    have HL := Lib.hid hl
    clear hT1 hB1 hl
    go_wp2_with fail
    go_ret
    exact ⟨by first | rfl | (rw [HL.out]; rfl), by rw [dnE, if_neg (by rw [HL.out]; simp)]; exact HS.out, HB2.out⟩
  | true =>
    have hT2 : Tb w1.drew g b base most budget E := hT1.all (below_dr (Below.refl _ _))
    have hBd : Below w.heap.size w w1.drew := below_dr (HB.out.trans (hB1.mono HB.out.size))
    have hc := (tb_cells hT2.blk).2.2.2
    have hl2 := run_loadAt_mid w1.drew bx 0 35 il _ (by have := ((HBK.out.below hB1 HBK.out.lt).below (below_dr (Below.refl w1.heap.size w1)) (HBK.out.below hB1 HBK.out.lt).lt).range; simpa using this) Try.underlying35 rfl (by simpa using HI.out)
    have HT2 := Lib.hid hT2
    have HBd := Lib.hid hBd
    have HL := Lib.hid hl
    clear hT1 hB1 hl hT2 hBd
    go_wp2_with fail
    refine wp_region_still_tail 5 (by kernel_rfl) (by kernel_rfl) ?_
    simp only [List.take_succ_cons, List.take_zero, List.drop_succ_cons, List.drop_zero]
    change wpStill _ _ (World.drew _) (fun a' => wpList _ _ _ _ a' (World.drew _)) _ _
    generalize w1.drew = W2 at hc hl2 HT2 HBd
    iterate 4 (still_step)
    refine wpStill_step (fun K hK => ?_)
    rw [if_pos (by rfl)]
    refine still_load 35 _ _ (.agg il.toArray) rfl rfl hl2 ?_
    go_simp
    refine hK _ ?_
    clear hK K hl2
    refine wpStill_nil ?_
    have hdl := del_length (x := x) HT2.out.srt
    refine wpList_drop x (del x E) rfl _ _ rfl rfl HX.out.symm HT2.out.tab (by rw [lk_del, if_pos rfl]) (fun y hy => by rw [lk_del, if_neg hy]) hdl ?_
    intro w2 ht2 hg2
    have hT3 : Tb w2 g b base most budget (del x E) := has_blk HT2.out.blk HG.out ht2 (srt_del HT2.out.srt) hg2
    have hg3 := grown_gb HBd.out hg2
    have HT3 := Lib.hid hT3
    have HG3 := Lib.hid hg3
    clear hT3 hg3 ht2 hg2 hc hdl
    go_wp2_with fail
    go_ret
    exact ⟨by first | rfl | (rw [HL.out]; rfl), by rw [dnE, if_pos HL.out]; exact HT3.out, HG3.out⟩
end Go.Proofs.Ythjgmnafbikihaa
