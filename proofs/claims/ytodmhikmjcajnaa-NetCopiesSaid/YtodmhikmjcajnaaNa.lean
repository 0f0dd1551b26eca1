/-
  Net: the plain state of a net, and how it lies in memory: which blocks it owns, and what the rest may do.
-/
import Derived.Test.YtodmhikmjcajnaaRows
import Derived.Test.YtodmhikmjcajnaaWords
import Derived.WalkKit
import Derived.ProofKit
import Derived.Below
import Derived.Outline
import Derived.Deep.QuietTactic
import Derived.BigQuiet
import Derived.Lib.Hide
import Derived.Deep.DeepMust
namespace Go.Proofs.Ytodmhikmjcajnaa
open Go.RowKit

/-- bytes as cells. -/
def bytes (d : List Int) : List Value := d.map (Value.int .u8)
theorem bytes_length (d : List Int) : (bytes d).length = d.length := by simp [bytes]
theorem bytes_one (d : List Int) : ∀ u ∈ bytes d, u.oneCell' = true := fun u hu => by
  simp only [bytes, List.mem_map] at hu
  obtain ⟨x, _, rfl⟩ := hu
  rfl

theorem ret_int {k : IntKind} {a b : Int} (h : a = b) : Ending.returned (.int k a) = .returned (.int k b) := by rw [h]
theorem ret_bool {a b : Bool} (h : a = b) : Ending.returned (.bool a) = .returned (.bool b) := by rw [h]

/-- a mail, plain: from, to, its bytes. -/
structure Mail where
  f : Int
  t : Int
  d : List Int

/-- a mail as it lies in the net's row: its bytes behind an address. -/
structure Ent where
  f : Int
  t : Int
  A : Option Addr
  n : Nat
  c : Nat
  d : List Int
def Ent.cells (e : Ent) : List Value := [.int .i64 e.f, .int .i64 e.t, .slice e.A e.n e.c]
def Ent.mail (e : Ent) : Mail := ⟨e.f, e.t, e.d⟩

/-- the bytes of an entry lie in a block that is the net's, and neither its struct nor its row. -/
structure Ent.ok (w : World) (S : Nat → Prop) (N : Nat) (row : Option Nat) (e : Ent) : Prop where
  reads : Reads w w.heap.size 1 e.A e.n (bytes e.d)
  own : 0 < e.n → ∀ a, e.A = some a → S a.block ∧ a.block ≠ N ∧ some a.block ≠ row
  cap : e.n ≤ e.c
  small : e.n ≤ 50
  to : -9223372036854775808 ≤ e.f ∧ e.f ≤ 9223372036854775807 ∧ -9223372036854775808 ≤ e.t ∧ e.t ≤ 9223372036854775807

/-- a net at block N whose blocks are those of S. -/
def IsNet (w : World) (N : Nat) (S : Nat → Prop) (room lost : Int) (ms : List Mail) : Prop :=
  (∀ x, S x → x < w.heap.size) ∧ ∃ (lv : Value) (es : List Ent), S N ∧ w.heap[N]? = some (.cells #[.int .i64 room, .int .i64 lost, lv] 44 (0, 0)) ∧ w.ownsRow 0 31 3 lv es.length (es.flatMap Ent.cells) ∧
    (∀ g, lv.ownBlock = some g → S g ∧ g ≠ N) ∧ es.map Ent.mail = ms ∧ ∀ e ∈ es, e.ok w S N lv.ownBlock

/-- what else there was is as it was. -/
structure Keeps (w w' : World) (S : Nat → Prop) : Prop where
  os : w'.os = w.os
  tape : w'.tape = w.tape
  output : w'.output = w.output
  size : w.heap.size ≤ w'.heap.size
  block : ∀ k, k < w.heap.size → ¬ S k → w'.heap[k]? = w.heap[k]?

theorem Keeps.refl (w : World) (S : Nat → Prop) : Keeps w w S := ⟨rfl, rfl, rfl, Nat.le_refl _, fun _ _ _ => rfl⟩
theorem Keeps.trans {w a b : World} {S T U : Nat → Prop} (h : Keeps w a S) (k : Keeps a b T) (h1 : ∀ x, S x → U x) (h2 : ∀ x, T x → x < w.heap.size → U x) : Keeps w b U :=
  ⟨k.os.trans h.os, k.tape.trans h.tape, k.output.trans h.output, Nat.le_trans h.size k.size, fun x hx hn =>
    (k.block x (Nat.lt_of_lt_of_le hx h.size) (fun ht => hn (h2 x ht hx))).trans (h.block x hx (fun hs => hn (h1 x hs)))⟩
theorem Keeps.of_below {w a : World} (h : Below w.heap.size w a) (S : Nat → Prop) : Keeps w a S := ⟨h.os, h.tape, h.output, h.size, fun k hk _ => h.block k hk⟩
theorem Keeps.of_grown {w a : World} {row : Option Nat} {S : Nat → Prop} (h : w.grownBy a row) (hr : ∀ g, row = some g → g < w.heap.size → S g) : Keeps w a S :=
  ⟨h.os, h.tape, h.output, h.size, fun k hk hn => h.block k hk (fun e => hn (hr k e.symm hk))⟩
theorem Keeps.below {w0 w a : World} {S : Nat → Prop} (h : Keeps w a S) (hb : Below w0.heap.size w0 w) (hS : ∀ x, S x → w0.heap.size ≤ x) : Below w0.heap.size w0 a :=
  ⟨h.os.trans hb.os, h.tape.trans hb.tape, h.output.trans hb.output, Nat.le_trans hb.size h.size, fun k hk => (h.block k (Nat.lt_of_lt_of_le hk hb.size) (fun hs => by have := hS k hs; omega)).trans (hb.block k hk)⟩
theorem Keeps.more {w a : World} {S T : Nat → Prop} (h : Keeps w a S) (hT : ∀ x, S x → x < w.heap.size → T x) : Keeps w a T :=
  ⟨h.os, h.tape, h.output, h.size, fun k hk hn => h.block k hk (fun hs => hn (hT k hs hk))⟩

theorem own_same {w w' : World} {base e size n : Nat} {v : Value} {xs : List Value} (h : w.ownsRow base e size v n xs) (hb : ∀ g, v.ownBlock = some g → w'.heap[g]? = w.heap[g]?) : w'.ownsRow base e size v n xs := by
  refine ⟨h.1, ?_⟩
  rcases h.2 with h' | ⟨g, cap, cur, rfl, hg, hh, r⟩
  · exact .inl h'
  · exact .inr ⟨g, cap, cur, rfl, hg, (hb g rfl).trans hh, r⟩
theorem reads_same {w w' : World} {B size n : Nat} {A : Option Addr} {xs : List Value} (h : Reads w B size A n xs) (hb : 0 < n → ∀ a, A = some a → w'.heap[a.block]? = w.heap[a.block]?) (hB : w.heap.size ≤ w'.heap.size) (hBs : B = w.heap.size) :
    Reads w' w'.heap.size size A n xs := by
  subst hBs
  refine ⟨h.1, fun hn => ?_⟩
  obtain ⟨ad, rfl, hlt, hc⟩ := h.2 hn
  refine ⟨ad, rfl, by omega, fun j u hu => ?_⟩
  refine (World.cell?_of_block (a := ad.add j) ?_).trans (hc j u hu)
  rw [block_of_add]
  exact hb hn ad rfl

/-- a net stays where its blocks do. -/
theorem IsNet.frame {w w' : World} {N : Nat} {S : Nat → Prop} {room lost : Int} {ms : List Mail} (h : IsNet w N S room lost ms) (hs : w.heap.size ≤ w'.heap.size) (hb : ∀ k, S k → k < w.heap.size → w'.heap[k]? = w.heap[k]?) :
    IsNet w' N S room lost ms := by
  obtain ⟨hS, lv, es, hN, hh, ho, hg, hm, he⟩ := h
  have hlt : N < w.heap.size := (Array.getElem?_eq_some_iff.1 hh).1
  refine ⟨fun x hx => Nat.lt_of_lt_of_le (hS x hx) hs, lv, es, hN, (hb N hN hlt).trans hh, own_same ho (fun g e => hb g (hg g e).1 (ho.lt g e).2), hg, hm, fun e hee => ?_⟩
  have h1 := he e hee
  refine ⟨reads_same h1.reads (fun hn a ha => ?_) hs rfl, h1.own, h1.cap, h1.small, h1.to⟩
  obtain ⟨ad, ea, hlt', _⟩ := h1.reads.2 hn
  rw [ea] at ha
  injection ha with ha
  subst ha
  exact hb _ (h1.own hn _ ea).1 hlt'
theorem IsNet.below {w w' : World} {N : Nat} {S : Nat → Prop} {room lost : Int} {ms : List Mail} (h : IsNet w N S room lost ms) (hb : Below w.heap.size w w') : IsNet w' N S room lost ms :=
  h.frame hb.size (fun k _ hk => hb.block k hk)
theorem IsNet.keeps {w w' : World} {N : Nat} {S T : Nat → Prop} {room lost : Int} {ms : List Mail} (h : IsNet w N S room lost ms) (hb : Keeps w w' T) (hd : ∀ k, S k → ¬ T k) : IsNet w' N S room lost ms :=
  h.frame hb.size (fun k hk hlt => hb.block k hlt (hd k hk))
theorem IsNet.at_ {w : World} {N : Nat} {S : Nat → Prop} {room lost : Int} {ms : List Mail} (h : IsNet w N S room lost ms) :
    ∃ A c, Blk w N 44 #[.int .i64 room, .int .i64 lost, .slice A ms.length c] ∧ N < w.heap.size ∧ S N := by
  obtain ⟨hS, lv, es, hN, hh, ho, hg, hm, he⟩ := h
  have hlt : N < w.heap.size := (Array.getElem?_eq_some_iff.1 hh).1
  have hl : es.length = ms.length := by rw [← hm]; simp
  rcases ho.2 with ⟨rfl, h0⟩ | ⟨g, cap, cur, rfl, _⟩
  · refine ⟨none, 0, ?_, hlt, hN⟩
    rw [← hl, h0]; exact hh
  · refine ⟨some ⟨g, 0, none⟩, cap, ?_, hlt, hN⟩
    rw [← hl]; exact hh

/-- the net's row and its mails' bytes, without its struct. -/
structure Rows' (w : World) (N : Nat) (S : Nat → Prop) (lv : Value) (es : List Ent) : Prop where
  own : w.ownsRow 0 31 3 lv es.length (es.flatMap Ent.cells)
  mine : ∀ g, lv.ownBlock = some g → S g ∧ g ≠ N
  ents : ∀ e ∈ es, e.ok w S N lv.ownBlock

theorem IsNet.parts {w : World} {N : Nat} {S : Nat → Prop} {room lost : Int} {ms : List Mail} (h : IsNet w N S room lost ms) :
    (∀ x, S x → x < w.heap.size) ∧ ∃ lv es, S N ∧ Blk w N 44 #[.int .i64 room, .int .i64 lost, lv] ∧ Rows' w N S lv es ∧ es.map Ent.mail = ms := by
  obtain ⟨hS, lv, es, hN, hh, ho, hg, hm, he⟩ := h
  exact ⟨hS, lv, es, hN, hh, ⟨ho, hg, he⟩, hm⟩
theorem IsNet.of {w : World} {N : Nat} {S : Nat → Prop} {room lost : Int} {lv : Value} {es : List Ent} (hS : ∀ x, S x → x < w.heap.size) (hN : S N) (hh : Blk w N 44 #[.int .i64 room, .int .i64 lost, lv]) (h : Rows' w N S lv es) : IsNet w N S room lost (es.map Ent.mail) :=
  ⟨hS, lv, es, hN, hh, h.own, h.mine, rfl, h.ents⟩

theorem Ent.ok.same {w w' : World} {S : Nat → Prop} {N : Nat} {row : Option Nat} {e : Ent} (h : e.ok w S N row) (hs : w.heap.size ≤ w'.heap.size) (hb : 0 < e.n → ∀ a, e.A = some a → a.block < w.heap.size → w'.heap[a.block]? = w.heap[a.block]?) : e.ok w' S N row := by
  refine ⟨reads_same h.reads (fun hn a ha => ?_) hs rfl, h.own, h.cap, h.small, h.to⟩
  obtain ⟨ad, ea, hlt', _⟩ := h.reads.2 hn
  rw [ea] at ha
  injection ha with ha
  subst ha
  exact hb hn _ ea hlt'

theorem Rows'.setN {w : World} {N : Nat} {S : Nat → Prop} {lv : Value} {es : List Ent} (h : Rows' w N S lv es) (i : Nat) (u : Value) : Rows' (w.setCell ⟨N, i, none⟩ u) N S lv es := by
  refine ⟨own_same h.own (fun g e => Below.heap_setCell w _ u g (fun e' => (h.mine g e).2 e')), h.mine, fun e he => ?_⟩
  have h1 := h.ents e he
  exact h1.same (by simp) (fun hn a ha _ => Below.heap_setCell w _ u a.block (fun e' => (h1.own hn a ha).2.1 e'))
theorem Rows'.drewN {w : World} {N : Nat} {S : Nat → Prop} {lv : Value} {es : List Ent} (h : Rows' w N S lv es) (q : Nat) : Rows' (w.drewN q) N S lv es := ⟨h.own, h.mine, fun e he => (h.ents e he).same (Nat.le_refl _) (fun _ _ _ _ => rfl)⟩
theorem IsNet.drewN {w : World} {N : Nat} {S : Nat → Prop} {room lost : Int} {ms : List Mail} (h : IsNet w N S room lost ms) (q : Nat) : IsNet (w.drewN q) N S room lost ms := h.frame (Nat.le_refl _) (fun _ _ _ => rfl)

theorem IsNet.setLost {w : World} {N : Nat} {S : Nat → Prop} {room lost : Int} {ms : List Mail} (h : IsNet w N S room lost ms) (l : Int) : IsNet (w.setCell ⟨N, 1, none⟩ (.int .i64 l)) N S room l ms := by
  obtain ⟨hS, lv, es, hN, hb, hr, rfl⟩ := h.parts
  exact IsNet.of (fun x hx => by simpa using hS x hx) hN (hb.set_ 1 _) (hr.setN 1 _)
theorem Keeps.setCell {w a : World} {S : Nat → Prop} (h : Keeps w a S) {p : Addr} (hp : S p.block ∨ w.heap.size ≤ p.block) (u : Value) : Keeps w (a.setCell p u) S :=
  ⟨h.os, h.tape, h.output, by simpa [World.setCell] using h.size, fun k hk hn => (Below.heap_setCell a p u k (fun e => by subst e; rcases hp with hp | hp; exact hn hp; omega)).trans (h.block k hk hn)⟩
theorem Keeps.drewN {w a : World} {S : Nat → Prop} (h : Keeps w a S) (q : Nat) : Keeps w (a.drewN q) S := ⟨h.os, h.tape, h.output, h.size, h.block⟩
theorem Keeps.alloc {w a : World} {S : Nat → Prop} (h : Keeps w a S) (o : Obj) : Keeps w (a.alloc o) S :=
  ⟨h.os, h.tape, h.output, Nat.le_trans h.size (by simp), fun k hk hn => (Below.heap_alloc a o k (Nat.lt_of_lt_of_le hk h.size)).trans (h.block k hk hn)⟩
end Go.Proofs.Ytodmhikmjcajnaa
