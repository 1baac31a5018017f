/-
  From a contract of the walk to the row's step, for arguments that reach memory: what was there stays, so each argument reads as it read.
-/
import Derived.Test.YtihligeggkpolaaTop
import Derived.Test.YtihligeggkpolaaRows
import Derived.WalkKit
import Derived.ProofKit
import Derived.OpenShut
import Derived.WideKeyArgs
namespace Go.Proofs.Ytihligeggkpolaa
open Go.ChangeShapes Go.WideShapes Go.ChangeAt Go.RowKit

def Kept (W W' : World) : Prop := (∀ (b : Nat) (o : Obj), W.heap[b]? = some o → W'.heap[b]? = some o) ∧ Grown W W'

theorem PSpec.walkK {P : Program} {f : FuncId} {us : List AV} (h : PSpec P f us (fun u => u = .bool true)) (vs : List Value) (w : World) (hv : RPs (Store.ofW w) vs us) :
    Calls P f vs.toArray w fun e w' => e = .returned (.bool true) ∧ Kept w w' := by
  rw [PSpec_iff] at h
  refine (h.2 (Store.ofW w) (fun _ => none) vs w (fun _ _ e => e) (fun _ _ e => by cases e) (fun _ => .inr rfl) hv).mono ?_
  rintro e w' ⟨v, u, S', rfl, rfl, hle, hs, _, _, hr, hw⟩
  cases hr
  refine ⟨rfl, fun b o hb => hs b o (hle b o hb), ⟨hw.os, hw.output, fun i hi => ?_⟩, hw.fz, hw.size⟩
  have e : w.heap[i]? = some w.heap[i] := by simp [hi]
  rw [e, hs i _ (hle i _ e)]
  cases w.heap[i] <;> simp

theorem Kept.sameAt {W W' : World} (h : Kept W W') {p : MemPlace} (hp : p.block < W.heap.size) : W.sameAt W' p := by
  cases p with
  | cell b off =>
    obtain ⟨o, e⟩ : ∃ o, W.heap[b]? = some o := ⟨_, Array.getElem?_eq_getElem hp⟩
    show W'.cell? _ = W.cell? _
    simp only [World.cell?, e, h.1 b _ e]
  | map b =>
    obtain ⟨o, e⟩ : ∃ o, W.heap[b]? = some o := ⟨_, Array.getElem?_eq_getElem hp⟩
    show W'.heap[b]? = W.heap[b]?
    rw [e, h.1 b _ e]

theorem TrodAll_stays {H : Type} {enc : TypeId × Value → H} {P : Program} {base : Nat} {W W' : World} {sp' : Nat → Bool} (hl : laidOutB P = true) :
    ∀ {ts : List TypeId} {vs : List Value} {ds : List (DataW H)} {ps : List MemPlace}, (∀ t ∈ ts, P.readableRec t = true ∧ t < P.types.size) → DataW.TrodAll enc P W base (fun _ => true) true ts vs ds ps →
      (∀ p ∈ ps, W.sameAt W' p) → (∀ p ∈ ps, sp' p.block = true) → DataW.TrodAll enc P W' base sp' true ts vs ds ps
  | [], [], [], _, _, h, _, _ => h
  | t :: ts, _ :: _, _ :: _, _, hT, ⟨p, q, h1, h2, e⟩, hs, hq => ⟨p, q,
      Go.WideElems.Trod_stays hl (hT t List.mem_cons_self).1 (hT t List.mem_cons_self).2 h1 (fun x hx => hs x (by rw [e]; exact List.mem_append_left _ hx)) (fun x hx => hq x (by rw [e]; exact List.mem_append_left _ hx)),
      TrodAll_stays hl (fun t ht => hT t (List.mem_cons_of_mem _ ht)) h2 (fun x hx => hs x (by rw [e]; exact List.mem_append_right _ hx)) (fun x hx => hq x (by rw [e]; exact List.mem_append_right _ hx)), e⟩

theorem ofW_cell {w : World} {a : Addr} {v : Value} (h : w.cell? a = some v) : (Store.ofW w).cell a = some v := by
  unfold Store.cell Store.ofW
  unfold World.cell? at h
  exact h

theorem rp_ints {H : Type} {enc : TypeId × Value → H} {P : Program} {w : World} {sp : Nat → Bool} {held : Bool} {t e : TypeId} {r : Reach} {base b0 : Nat} {v : Value} {d : DataW H} {ps : List MemPlace}
    (ht : P.underlying t = some (.slice e)) (he : P.underlying e = some (.int .i64)) (hc : P.cellsOf e = 1) (hval : Value.okWide P w r b0 t v) (hd : DataW.Trod enc P w base sp held t v d ps) :
    ∃ l : List Int, RP (Store.ofW w) v (.sl 0 encI l) ∧ (∀ n ∈ l, -9223372036854775808 ≤ n ∧ n ≤ 9223372036854775807) ∧ l.length ≤ maxLen := by
  obtain ⟨a, len, cap, rfl⟩ := okWide_slice ht hval
  obtain ⟨fuel, hf⟩ := hd
  rcases open_ints ht he hc hf with ⟨hcs, _⟩ | ⟨a', len', cap', zs, hcs, _, hle, hmax, hall, _, hcell, hwf⟩
  · simp [Value.cells] at hcs
    obtain ⟨rfl, rfl, rfl⟩ := hcs
    refine ⟨[], ?_, by simp, by simp⟩
    exact .sl 0 encI [] none 0 1 (fun _ _ => .int .i64 0) (by simp) (by simp) (by simp) (fun i j hi => by simp at hi) (by simp) (fun i a j u hi => by simp at hi)
  · simp [Value.cells] at hcs
    obtain ⟨rfl, rfl, rfl⟩ := hcs
    have hz : len ≤ zs.length := by rw [hall]; split <;> omega
    have hlen : (zs.take len).length = len := by simp; omega
    refine ⟨zs.take len, ?_, fun n hn => ?_, by omega⟩
    · have := RP.sl (S := Store.ofW w) 0 encI (zs.take len) (some a') cap 1 (fun i _ => .int .i64 (zs.getD i 0)) (by omega) (fun _ _ => rfl) (fun _ _ => rfl)
        (fun i j hi hj => ⟨a', rfl, by
          obtain rfl : j = 0 := by omega
          rw [Nat.mul_one, Nat.add_zero]
          exact ofW_cell (hcell i (by omega))⟩) (by simp) (fun i x j u hi hu => by
          have hx : zs[i]? = some x := by
            rw [List.getElem?_take] at hi
            split at hi
            · exact hi
            · cases hi
          have hj : j = 0 := by
            have := (List.getElem?_eq_some_iff.1 hu).1
            simp [encI] at this
            exact this
          subst hj
          simp [encI] at hu
          subst hu
          rw [List.getD_eq_getElem?_getD, hx]
          exact .int _ _)
      rwa [hlen] at this
    · have := hwf n (List.mem_of_mem_take hn)
      simp [Lit.wf] at this
      have k : IntKind.i64.min = -9223372036854775808 := by decide
      have k' : IntKind.i64.max = 9223372036854775807 := by decide
      omega

end Go.Proofs.Ytihligeggkpolaa
