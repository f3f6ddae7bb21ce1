/- The header of IP. -/
import Derived.Test.YtjlbegfbdjhhdaaG3
namespace Go.Proofs.Ytjlbegfbdjhhdaa
open Go.Rd Go.RowKit
set_option linter.unusedVariables false
set_option linter.unusedSimpArgs false

theorem join_five {w : World} {p q r s t : Part} {P : Option Addr} {N : Nat} {L : List Int} (h : Rd Part.v w P 5 [p, q, r, s, t]) (hp : IBytes w p.A p.n p.xs) (hq : IBytes w q.A q.n q.xs) (hr : IBytes w r.A r.n r.xs) (hs : IBytes w s.A s.n s.xs) (ht : IBytes w t.A t.n t.xs)
    (hN : p.n + (q.n + (r.n + (s.n + t.n))) = N) (hL : p.xs ++ (q.xs ++ (r.xs ++ (s.xs ++ t.xs))) = L) (hb : N ≤ 100000000) :
    Run Try.prog 29 #[.slice P 5 5] w fun v w' => NewBytes w w' v N L := by
  refine (join_spec h (by omega) (by simp [hp, hq, hr, hs, ht]) (by simp [total]; omega)).mono ?_
  intro v w' hv
  subst hN hL
  simpa [total, flat] using hv

abbrev FinJ (u : World) (a1 : Addr) (n1 : Nat) (A : Option Addr) (n c : Nat) (a2 : Addr) (n2 : Nat) (sA : Addr) (dA : Addr) (sn sc : Nat) (J : Option Addr → Nat → Nat → World → Prop) : Prop :=
  letW (u.alloc (.cells #[.slice (some a1) n1 n1, .slice A n c, .slice (some a2) n2 n2, .slice (some sA) sn sc, .slice (some dA) sn sc] 26)) fun u' => Run Try.prog 29 #[.slice (some (newA u)) 5 5] u' fun v w' => ∃ (A : Option Addr) (n c : Nat), v = .slice A n c ∧ J A n c w'
abbrev NumT (v : Int) (u : World) (f : Option Addr → Nat → Nat → World → Prop) : Prop := Run Try.prog 30 #[.int .u32 v] u fun r u' => ∃ (A : Option Addr) (n c : Nat), r = .slice A n c ∧ f A n c u'
theorem num_t {v : Int} {u : World} {f : Option Addr → Nat → Nat → World → Prop} (h : ∀ A c u', IBytes u' A 2 (fieldB 2 v) → Ext u u' → f A 2 c u') : NumT v u f := by
  refine gnum_spec.mono ?_
  rintro r u' ⟨A, c, rfl, o, l, b, x⟩
  exact ⟨_, _, _, rfl, h A c u' (o.rd l) x⟩

theorem six {W w : World} {S : World → Prop} (hS : ∀ u u', S u → Ext u u' → S u') (s0 : S w) (xw : Ext W w) {l1 l2 : List Int} {c1 c2 : Array Value} {n1 n2 : Nat} (h1 : c1 = (l1.map (Value.int .u8)).toArray) (h2 : c2 = (l2.map (Value.int .u8)).toArray) (e1 : l1.length = n1) (e2 : l2.length = n2) {v : Int} {sA dA : Addr} {sn sc : Nat} {ss ds : List Int}
    (hs : IBytes w (some sA) sn ss) (hd : IBytes w (some dA) sn ds) {N : Nat} {L : List Int} (hN : n1 + (2 + (n2 + (sn + sn))) = N) (hL : l1 ++ (fieldB 2 v ++ (l2 ++ (ss ++ ds))) = L) (hb : N ≤ 100000000) {J : Option Addr → Nat → Nat → World → Prop} (hJ : ∀ A n c w', NewBytes W w' (.slice A n c) N L → J A n c w') :
    (letW (w.alloc (.cells c1 5)) fun w4 => S w4 ∧ (NumT v w4 fun A n c w5 => S w5 ∧ letW (w5.alloc (.cells c2 5)) fun w6 => FinJ w6 (newA w) n1 A n c (newA w5) n2 sA dA sn sc J) ∧ (letW (w4.alloc (.cells c2 5)) fun w9 => NumT v w9 fun A n c w10 => FinJ w10 (newA w) n1 A n c (newA w4) n2 sA dA sn sc J)) ∧
    (NumT v w fun A n c w13 => S w13 ∧ (letW (w13.alloc (.cells c1 5)) fun w14 => S w14 ∧ letW (w14.alloc (.cells c2 5)) fun w15 => FinJ w15 (newA w13) n1 A n c (newA w14) n2 sA dA sn sc J) ∧ (letW (w13.alloc (.cells c2 5)) fun w18 => letW (w18.alloc (.cells c1 5)) fun w19 => FinJ w19 (newA w18) n1 A n c (newA w13) n2 sA dA sn sc J)) ∧
    (letW (w.alloc (.cells c2 5)) fun w22 => (letW (w22.alloc (.cells c1 5)) fun w23 => NumT v w23 fun A n c w24 => FinJ w24 (newA w22) n1 A n c (newA w) n2 sA dA sn sc J) ∧ (NumT v w22 fun A n c w27 => letW (w27.alloc (.cells c1 5)) fun w28 => FinJ w28 (newA w27) n1 A n c (newA w) n2 sA dA sn sc J)) := by
  subst e1 e2
  have fin : ∀ (u : World) (a1 : Addr) (A : Option Addr) (c : Nat) (a2 : Addr), Ext w u → IBytes u (some a1) l1.length l1 → IBytes u A 2 (fieldB 2 v) → IBytes u (some a2) l2.length l2 → FinJ u a1 l1.length A 2 c a2 l2.length sA dA sn sc J := by
    intro u a1 A c a2 x i1 i2 i3
    refine letA fun u' hu xu su => ?_
    have r := lit_rd (f := Part.v) (w := u) (xs := [⟨some a1, l1.length, l1.length, l1⟩, ⟨A, 2, c, fieldB 2 v⟩, ⟨some a2, l2.length, l2.length, l2⟩, ⟨some sA, sn, sc, ss⟩, ⟨some dA, sn, sc, ds⟩]) hu rfl
    refine (join_five (N := N) (L := L) r (i1.ext xu) (i2.ext xu) (i3.ext xu) ((hs.ext x).ext xu) ((hd.ext x).ext xu) hN hL hb).mono ?_
    rintro v w' hv
    have := hv.more ((xw.trans x).trans xu)
    obtain ⟨B, bc, rfl, _⟩ := id hv
    exact ⟨_, _, _, rfl, hJ _ _ _ _ this⟩
  have lit : ∀ {u u' : World} {l : List Int} {cs : Array Value}, u'.heap[u.heap.size]? = some (.cells cs 5 (0, 0)) → cs = (l.map (Value.int .u8)).toArray → IBytes u' (some (newA u)) l.length l := fun h e => lit_rd h e
  refine ⟨letA fun w4 k4 x4 _ => ⟨hS _ _ s0 x4, num_t fun A c w5 i5 x5 => ⟨hS _ _ s0 (x4.trans x5), letA fun w6 k6 x6 _ => fin _ _ _ _ _ ((x4.trans x5).trans x6) (((lit k4 h1).ext x5).ext x6) (i5.ext x6) (lit k6 h2)⟩, letA fun w9 k9 x9 _ => num_t fun A c w10 i10 x10 => fin _ _ _ _ _ ((x4.trans x9).trans x10) (((lit k4 h1).ext x9).ext x10) i10 ((lit k9 h2).ext x10)⟩,
    num_t fun A c w13 i13 x13 => ⟨hS _ _ s0 x13, letA fun w14 k14 x14 _ => ⟨hS _ _ s0 (x13.trans x14), letA fun w15 k15 x15 _ => fin _ _ _ _ _ ((x13.trans x14).trans x15) ((lit k14 h1).ext x15) ((i13.ext x14).ext x15) (lit k15 h2)⟩, letA fun w18 k18 x18 _ => letA fun w19 k19 x19 _ => fin _ _ _ _ _ ((x13.trans x18).trans x19) (lit k19 h1) ((i13.ext x18).ext x19) ((lit k18 h2).ext x19)⟩,
    letA fun w22 k22 x22 _ => ⟨letA fun w23 k23 x23 _ => num_t fun A c w24 i24 x24 => fin _ _ _ _ _ ((x22.trans x23).trans x24) ((lit k23 h1).ext x24) i24 (((lit k22 h2).ext x23).ext x24), num_t fun A c w27 i27 x27 => letA fun w28 k28 x28 _ => fin _ _ _ _ _ ((x22.trans x27).trans x28) (lit k28 h1) (i27.ext x28) (((lit k22 h2).ext x27).ext x28)⟩⟩

def hdrB (s : Sp) (n : Int) : List Int :=
  if s.pr = 33 then [69, 0] ++ (fieldB 2 (IntKind.u32.wrap (IntKind.i64.wrap (20 + n))) ++ ([0, 0, 0, 0, 64, IntKind.u8.wrap s.nx, 0, 0] ++ ((List.range 4).map s.sr ++ (List.range 4).map s.ds)))
  else [96, 0, 0, 0] ++ (fieldB 2 (IntKind.u32.wrap n) ++ ([IntKind.u8.wrap s.nx, 64] ++ ((List.range 16).map s.sr ++ (List.range 16).map s.ds)))
def hdrN (s : Sp) : Nat := if s.pr = 33 then 20 else 40
theorem header_spec {w : World} {s : Sp} {n : Int} : Run Try.prog 32 #[s.v, .int .i64 n] w fun v w' => NewBytes w w' v (hdrN s) (hdrB s n) := by
  refine forge_header.ok (letA fun w1 h1 x1 s1 => ?_)
  have hs : SAt w1 w.heap.size s := h1
  let S : World → Prop := fun u => SAt u w.heap.size s
  have hS : ∀ u u', S u → Ext u u' → S u' := fun u u' h x => h.ext x
  refine ⟨_, hs.at_ 6 rfl, ifP_beq.2 ⟨fun h33 => ⟨S, hS _ _ hs (Ext.drew w1), letD fun w2 _ x2 => ?_⟩, fun h33 => ⟨S, hS _ _ hs (Ext.drew w1), letD fun w2 _ x2 => ?_⟩⟩⟩
  · have s2 : S w2 := hs.ext x2
    refine ⟨_, fun u hu => SAt.at_ hu 7 rfl, by decide, by decide, by decide, by decide, by decide, by decide, ?_⟩
    rw [hdrN, if_pos h33, hdrB, if_pos h33]
    exact six (l1 := [69, 0]) (l2 := [0, 0, 0, 0, 64, IntKind.u8.wrap s.nx, 0, 0]) (N := 20) hS s2 (x1.trans x2) rfl rfl rfl rfl (srcBytes (n := 4) s2 (by decide)) (dstBytes (n := 4) s2 (by decide)) rfl rfl (by decide) fun A m c w' hv => hv
  · have s2 : S w2 := hs.ext x2
    refine ⟨_, fun u hu => SAt.at_ hu 7 rfl, by decide, by decide, by decide, by decide, by decide, by decide, ?_⟩
    rw [hdrN, if_neg h33, hdrB, if_neg h33]
    exact six (l1 := [96, 0, 0, 0]) (l2 := [IntKind.u8.wrap s.nx, 64]) (N := 40) hS s2 (x1.trans x2) rfl rfl rfl rfl (srcBytes (n := 16) s2 (by decide)) (dstBytes (n := 16) s2 (by decide)) rfl rfl (by decide) fun A m c w' hv => hv
end Go.Proofs.Ytjlbegfbdjhhdaa
