/- The statement over jumps. -/
import Derived.Test.YtllooifbiapeoaaD16
namespace Go.Proofs.Ytllooifbiapeoaa
open Go.Rd Go.RowKit
set_option linter.unusedVariables false
set_option linter.unusedSimpArgs false
set_option maxRecDepth 100000

def jops : List Int := [21, 37, 53, 69, 29, 45, 61, 77]
theorem jop_facts {op : Int} (h : op ∈ jops) : classOf op = 5 ∧ op ≠ 5 ∧ isKnown op = true ∧ op ∉ wordsL ∧ ¬ (op = 52 ∨ op = 148) ∧ ¬ (op = 100 ∨ op = 116) ∧ (0 ≤ op ∧ op ≤ 65535) := by
  have : ∀ x ∈ jops, classOf x = 5 ∧ x ≠ 5 ∧ isKnown x = true ∧ x ∉ wordsL ∧ ¬ (x = 52 ∨ x = 148) ∧ ¬ (x = 100 ∨ x = 116) ∧ (0 ≤ x ∧ x ≤ 65535) := by decide +kernel
  exact this op h
/-- Ahead, and behind. -/
def jHead (op t f kk a b : Int) : List Ins := [⟨1, 0, 0, b⟩, ⟨0, 0, 0, a⟩, ⟨op, t, f, kk⟩]
def jTail : List Ins := [⟨6, 0, 0, 1⟩, ⟨6, 0, 0, 2⟩]
def jFar (op kk a b : Int) (n : Nat) : List Ins := jHead op n 0 kk a b ++ ([⟨5, 0, 0, n⟩] ++ (List.replicate (n - 1) (⟨6, 0, 0, 77⟩ : Ins) ++ jTail))
def jNear (op kk a b : Int) : List Ins := jHead op 0 1 kk a b ++ jTail
def jW (a b : Int) : List Int := (ws0.set 1 b).set 0 a
section
variable {op t f kk a b : Int} {q : Bool} {n : Nat}
theorem jfault (h : op ∈ jops) : faultOf ⟨op, t, f, kk⟩ = 0 := by
  obtain ⟨_, _, h3, h4, h5, h6, _⟩ := jop_facts h
  unfold faultOf
  rw [if_pos h3, if_neg (fun h => h4 h.1), if_neg (fun h => h5 h.1), if_neg (fun h => h6 h.1)]
theorem jask (h : rightX ⟨op, t, f, kk⟩ (jW a b) = b) (hq : askX op a b = q) (h5 : op ≠ 5) : goalX ⟨op, t, f, kk⟩ 2 (jW a b) = if q = true then 3 + t.toNat else 3 + f.toNat := by
  rw [goalX, if_neg h5, h]
  show (if askX op a b = true then _ else _) = _
  rw [hq]
theorem jHead_run {xs : List Ins} {g : Nat} (h0 : xs[0]? = some ⟨1, 0, 0, b⟩) (h1 : xs[1]? = some ⟨0, 0, 0, a⟩) (h2 : xs[2]? = some ⟨op, t, f, kk⟩) (hop : op ∈ jops) :
    (runX xs [] (g + 1 + 1 + 1) 0 ws0).1 = (runX xs [] g (goalX ⟨op, t, f, kk⟩ 2 (jW a b)) (jW a b)).1 := by
  obtain ⟨h5, _⟩ := jop_facts hop
  rw [run_step (ws' := ws0.set 1 b) h0 (show classOf 1 ≠ 5 by decide) (show classOf 1 ≠ 6 by decide) rfl, run_step (ws' := jW a b) h1 (show classOf 0 ≠ 5 by decide) (show classOf 0 ≠ 6 by decide) rfl, run_jump h2 h5]
theorem near_verd (hop : op ∈ jops) (hr : rightX ⟨op, 0, 1, kk⟩ (jW a b) = b) (hq : askX op a b = q) : codeV (jNear op kk a b) [] = 0 ∧ (verdV (jNear op kk a b) []).1 = if q = true then 1 else 2 := by
  obtain ⟨h5, hn5, _⟩ := jop_facts hop
  have T : Taken (jNear op kk a b) := by
    refine ⟨Nat.succ_pos _, show 5 ≤ 4096 by decide, fun k x hx => ?_, show decide (classOf 6 = 6) = true by decide⟩
    have c6 : ∀ (m : Int) (l : Int), faultOf ⟨6, 0, 0, m⟩ = 0 ∧ jumpBad ⟨6, 0, 0, m⟩ l = false := fun m l => ⟨rfl, by unfold jumpBad; rw [if_neg (show ¬ classOf 6 = 5 by decide)]⟩
    have c0 : ∀ (c m : Int) (l : Int), classOf c ≠ 5 → jumpBad ⟨c, 0, 0, m⟩ l = false := fun c m l h => by unfold jumpBad; rw [if_neg (show ¬ classOf c = 5 from h)]
    match k, hx with
    | 0, hx => obtain rfl := Option.some.inj hx; exact ⟨rfl, c0 1 _ _ (by decide)⟩
    | 1, hx => obtain rfl := Option.some.inj hx; exact ⟨rfl, c0 0 _ _ (by decide)⟩
    | 2, hx =>
      obtain rfl := Option.some.inj hx
      refine ⟨jfault hop, ?_⟩
      unfold jumpBad
      rw [if_pos (show classOf op = 5 from h5), if_neg (show ¬ op = 5 from hn5)]
      rfl
    | 3, hx => obtain rfl := Option.some.inj hx; exact c6 _ _
    | 4, hx => obtain rfl := Option.some.inj hx; exact c6 _ _
    | k + 5, hx => cases hx
  obtain ⟨ec, ev⟩ := verd_taken (pkt := []) T (by decide)
  refine ⟨ec, ?_⟩
  rw [ev]
  have e : (runV (jNear op kk a b) []).1 = _ := jHead_run (xs := jNear op kk a b) (g := 2) rfl rfl rfl hop
  rw [e, jask hr hq hn5]
  cases q with
  | true =>
    have := run_ret (xs := jNear op kk a b) (pkt := []) (f := 1) (a := 3) (ws := jW a b) (i := ⟨6, 0, 0, 1⟩) rfl (by decide)
    rw [if_pos rfl, if_pos rfl]
    show (runX (jNear op kk a b) [] (1 + 1) 3 (jW a b)).1.1 = 1
    rw [this]
    rfl
  | false =>
    have := run_ret (xs := jNear op kk a b) (pkt := []) (f := 1) (a := 4) (ws := jW a b) (i := ⟨6, 0, 0, 2⟩) rfl (by decide)
    rw [if_neg (by decide), if_neg (by decide)]
    show (runX (jNear op kk a b) [] (1 + 1) 4 (jW a b)).1.1 = 2
    rw [this]
    rfl
theorem jFar_len (hn : 1 ≤ n) : (jFar op kk a b n).length = n + 5 := by
  simp only [jFar, jHead, jTail, List.length_append, List.length_cons, List.length_nil, List.length_replicate]
  omega
theorem jFar_ret (hn : 1 ≤ n) : (jFar op kk a b n)[n + 3]? = some ⟨6, 0, 0, 1⟩ ∧ (jFar op kk a b n)[n + 4]? = some ⟨6, 0, 0, 2⟩ := by
  have e : jFar op kk a b n = (jHead op n 0 kk a b ++ ([⟨5, 0, 0, n⟩] ++ List.replicate (n - 1) (⟨6, 0, 0, 77⟩ : Ins))) ++ jTail := by simp [jFar]
  have l : (jHead op n 0 kk a b ++ ([(⟨5, 0, 0, n⟩ : Ins)] ++ List.replicate (n - 1) (⟨6, 0, 0, 77⟩ : Ins))).length = n + 3 := by
    simp only [jHead, List.length_append, List.length_cons, List.length_nil, List.length_replicate]
    omega
  rw [e, List.getElem?_append_right (by omega), List.getElem?_append_right (by omega), l, show n + 3 - (n + 3) = 0 by omega, show n + 4 - (n + 3) = 1 by omega]
  exact ⟨rfl, rfl⟩
theorem far_verd (hop : op ∈ jops) (hn : 1 ≤ n) (hn2 : n ≤ 255) (hr : rightX ⟨op, n, 0, kk⟩ (jW a b) = b) (hq : askX op a b = q) : codeV (jFar op kk a b n) [] = 0 ∧ (verdV (jFar op kk a b n) []).1 = if q = true then 1 else 2 := by
  obtain ⟨h5, hn5, _⟩ := jop_facts hop
  have hlen := jFar_len (op := op) (kk := kk) (a := a) (b := b) hn
  obtain ⟨r1, r2⟩ := jFar_ret (op := op) (kk := kk) (a := a) (b := b) hn
  have T : Taken (jFar op kk a b n) := by
    refine ⟨by omega, by omega, fun k x hx => ?_, ?_⟩
    · have c6 : ∀ (m : Int) (l : Int), faultOf ⟨6, 0, 0, m⟩ = 0 ∧ jumpBad ⟨6, 0, 0, m⟩ l = false := fun m l => ⟨rfl, by unfold jumpBad; rw [if_neg (show ¬ classOf 6 = 5 by decide)]⟩
      have c0 : ∀ (c m : Int) (l : Int), classOf c ≠ 5 → jumpBad ⟨c, 0, 0, m⟩ l = false := fun c m l h => by unfold jumpBad; rw [if_neg (show ¬ classOf c = 5 from h)]
      rw [hlen]
      match k, hx with
      | 0, hx => obtain rfl := Option.some.inj hx; exact ⟨rfl, c0 1 _ _ (by decide)⟩
      | 1, hx => obtain rfl := Option.some.inj hx; exact ⟨rfl, c0 0 _ _ (by decide)⟩
      | 2, hx =>
        obtain rfl := Option.some.inj hx
        refine ⟨jfault hop, ?_⟩
        unfold jumpBad
        rw [if_pos (show classOf op = 5 from h5), if_neg (show ¬ op = 5 from hn5)]
        show (decide (((n + 5 : Nat) : Int) - 1 - ((2 : Nat) : Int) ≤ (n : Int)) || decide (((n + 5 : Nat) : Int) - 1 - ((2 : Nat) : Int) ≤ 0)) = false
        simp only [Bool.or_eq_false_iff, decide_eq_false_iff_not]
        omega
      | 3, hx =>
        obtain rfl := Option.some.inj hx
        refine ⟨rfl, ?_⟩
        unfold jumpBad
        rw [if_pos (show classOf 5 = 5 by decide), if_pos (show (5 : Int) = 5 from rfl)]
        show decide (((n + 5 : Nat) : Int) - 1 - ((3 : Nat) : Int) ≤ (n : Int)) = false
        rw [decide_eq_false_iff_not]
        omega
      | k + 4, hx =>
        have hx : (List.replicate (n - 1) (⟨6, 0, 0, 77⟩ : Ins) ++ jTail)[k]? = some x := hx
        have := List.mem_of_getElem? hx
        rcases List.mem_append.1 this with h | h
        · obtain rfl := List.eq_of_mem_replicate h
          exact c6 _ _
        · simp only [jTail, List.mem_cons, List.not_mem_nil, or_false] at h
          rcases h with rfl | rfl <;> exact c6 _ _
    · unfold endsRet
      have e : jFar op kk a b n = (jHead op n 0 kk a b ++ ([⟨5, 0, 0, n⟩] ++ (List.replicate (n - 1) (⟨6, 0, 0, 77⟩ : Ins) ++ [⟨6, 0, 0, 1⟩]))) ++ [⟨6, 0, 0, 2⟩] := by simp [jFar, jTail]
      rw [e, List.getLast?_concat]
      show decide (classOf 6 = 6) = true
      decide
  obtain ⟨ec, ev⟩ := verd_taken (pkt := []) T (by decide)
  refine ⟨ec, ?_⟩
  rw [ev]
  have e : (runV (jFar op kk a b n) []).1 = (runX (jFar op kk a b n) [] (n + 2) (goalX ⟨op, n, 0, kk⟩ 2 (jW a b)) (jW a b)).1 := by
    have := jHead_run (xs := jFar op kk a b n) (g := n + 2) rfl rfl rfl hop
    rw [← this, runV, hlen]
  rw [e, jask hr hq hn5]
  cases q with
  | true =>
    have := run_ret (xs := jFar op kk a b n) (pkt := []) (f := n + 1) (a := 3 + n) (ws := jW a b) (by rw [Nat.add_comm]; exact r1) (by decide)
    rw [if_pos rfl, if_pos rfl, Int.toNat_natCast]
    show (runX (jFar op kk a b n) [] (n + 1 + 1) (3 + n) (jW a b)).1.1 = 1
    rw [this]
    rfl
  | false =>
    have e1 := run_jump (xs := jFar op kk a b n) (pkt := []) (f := n + 1) (a := 3) (ws := jW a b) (i := ⟨5, 0, 0, n⟩) rfl (show classOf 5 = 5 by decide)
    have eg : goalX ⟨5, 0, 0, (n : Int)⟩ 3 (jW a b) = n + 4 := by
      rw [goalX, if_pos rfl]
      show 3 + 1 + Int.toNat (n : Int) = _
      rw [Int.toNat_natCast]
      omega
    rw [eg] at e1
    have e2 := run_ret (xs := jFar op kk a b n) (pkt := []) (f := n) (a := n + 4) (ws := jW a b) r2 (by decide)
    rw [if_neg (by decide), if_neg (by decide)]
    show (runX (jFar op kk a b n) [] (n + 1 + 1) 3 (jW a b)).1.1 = 2
    rw [e1, e2]
    rfl
end
end Go.Proofs.Ytllooifbiapeoaa
