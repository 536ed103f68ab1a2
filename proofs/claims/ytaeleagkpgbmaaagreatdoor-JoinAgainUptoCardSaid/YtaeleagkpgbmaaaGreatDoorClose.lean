/- What all claims of this seat share: the arguments as data, the end of a law that answers true. -/
import Derived.Test.YtaeleagkpgbmaaaGreatDoorJoin2
import Derived.Test.YtaeleagkpgbmaaaGreatDoorPath
import Derived.Test.YtaeleagkpgbmaaaGreatDoorCards
import Derived.Test.YtaeleagkpgbmaaaGreatDoorTie
import Derived.ProofKit
import Derived.OpenShut
import Derived.Deep.DeepHandedRow
import Derived.Lib.LaidTab
import Derived.Shelf.LaysM
namespace Go.Proofs.YtaeleagkpgbmaaaGreatDoor
open Go.ChangeShapes Go.WideShapes Go.ChangeAt Go.RowKit
set_option linter.unusedSimpArgs false
set_option linter.unusedVariables false
set_option maxRecDepth 100000

theorem own : ownKnob Tryz.prog.godebug = none := by kernel_rfl
theorem laidOut : laidOutB Tryz.prog = true := by kernel_rfl
theorem gmax_of {W : World} (h : W.ShapedOpen Tryz.prog) : GMax W :=
  cell_of_shapedOpen_int (zero := #[.int .i64 0]) (t := 3) h (of_decide_eq_true (by kernel_rfl)) (by kernel_rfl) rfl (by kernel_rfl) (by kernel_rfl) Tryz.underlying3

section
variable {H : Type} {enc : TypeId × Value → H} {W W' : World}
/-- arguments read behind the call as they did -/
theorem trodAll_below (hb : Below W.heap.size W W') {sp : Nat → Bool} : ∀ {ts : List TypeId} {vs : List Value} {ds : List (DataW H)} {ps : List MemPlace}, (∀ t ∈ ts, Tryz.prog.readableRec t = true ∧ t < Tryz.prog.types.size) →
    DataW.TrodAll enc Tryz.prog W 0 (fun _ => true) true ts vs ds ps → (∀ p ∈ ps, p.block < W.heap.size) → (∀ p ∈ ps, sp p.block = true) → DataW.TrodAll enc Tryz.prog W' 0 sp true ts vs ds ps
  | [], vs, ds, ps, _, h, _, _ => by
    obtain ⟨rfl, rfl, rfl⟩ := trodAll_nil h
    exact trodAll_mk0
  | t :: ts, vs, ds, ps, hts, h, hlt, hs => by
    obtain ⟨v, vs, d, ds, p, q, rfl, rfl, rfl, h1, h2⟩ := trodAll_cons h
    obtain ⟨hr, hrow⟩ := hts t List.mem_cons_self
    exact trodAll_cons_mk (WideElems.Trod_stays laidOut hr hrow h1 (fun x hx => hb.same (hlt x (List.mem_append_left _ hx))) (fun x hx => hs x (List.mem_append_left _ hx)))
      (trodAll_below hb (fun t ht => hts t (List.mem_cons_of_mem _ ht)) h2 (fun x hx => hlt x (List.mem_append_right _ hx)) (fun x hx => hs x (List.mem_append_right _ hx)))
/-- a law that answers true and turns nothing that was there -/
theorem law_post {f : Func} {s : ChangeSpec} {apart fresh handsOn again : Bool} {args : Array Value} {ds gs : List (DataW H)} {before : List MemPlace}
    (hW : DataW.Whole enc Tryz.prog f.params.toList s.vars apart W args.toList ds gs before) (hvars : s.vars = []) (hr : f.resultTypes = #[4])
    (hres : (s.fn H (ds ++ gs)).results = [.lit (.bool true)]) (hargs : (s.fn H (ds ++ gs)).args = ds) (hv2 : (s.fn H (ds ++ gs)).vars = [])
    (hts : ∀ t ∈ f.params.toList, Tryz.prog.readableRec t = true ∧ t < Tryz.prog.types.size) (hb : Below W.heap.size W W') :
    s.post enc Tryz.prog f apart fresh handsOn again W args (.bool true) W' := by
  have hW' := hW
  have hlt : ∀ p ∈ before, p.block < W.heap.size := fun p hp => hW.lt p hp
  obtain ⟨p, q, hA, hV, rfl, hz, hn⟩ := hW
  rw [hvars] at hV
  obtain ⟨rfl, rfl⟩ := trodVars_none hV
  simp only [List.append_nil] at hW' hlt hz hn hres hargs hv2
  have hR : ∀ (b : Nat) (sp : Nat → Bool) (hd : Bool), DataW.TrodAll enc Tryz.prog W' b sp hd f.resultTypes.toList ((Value.bool true).resultList f.resultTypes.size) (s.fn H ds).results [] := fun b sp hd => by
    rw [hr, hres]
    exact trodAll_cons_mk (shut_bool Tryz.underlying4 _) trodAll_mk0
  have hA' : ∀ sp : Nat → Bool, (∀ x ∈ p, sp x.block = true) → DataW.TrodAll enc Tryz.prog W' 0 sp true f.params.toList args.toList (s.fn H ds).args p := fun sp hsp => by
    rw [hargs]
    exact trodAll_below hb hts hA hlt hsp
  have hV' : ∀ sp : Nat → Bool, DataW.TrodVars enc Tryz.prog W' sp s.vars (s.fn H ds).vars [] := fun sp => by
    rw [hvars, hv2]; rfl
  refine ⟨ds, [], p, [], p, [], hW', by simpa using hR _ _ _, by simpa using hA' _ (fun x hx => by simpa using hlt x hx), by simpa using hV' _, World.keptBut_mono (fun x hx => ⟨hx, .inr (by simpa using hx)⟩) (hb.frame (· ∈ p)), fun _ => ?_⟩
  refine ⟨fun j t r h1 h2 => ?_, _, _, ([] ++ p) ++ [], ⟨[] ++ p, [], trodAll_append (by simpa using hA' _ (fun _ _ => rfl)) (by simpa using hR _ _ _), by simpa using hV' _, rfl, ?_, ?_⟩, ?_⟩
  · exact ok_one (by rw [hr]) rfl (okWide_bool_mk Tryz.underlying4 _) j t r h1 h2
  · intro b off hp
    have hin : MemPlace.cell b off ∈ p := by simpa using hp
    rw [hb.frozen (hlt _ hin)]
    exact hz b off hin
  · intro ha
    simpa using hn ha
  · intro x hx _
    simpa using hx
end

/-! ### arrays of plain cells -/
theorem okWide_cells {W : World} {base : Nat} {t e : TypeId} {n : Nat} {v : Value} {d : TypeDesc} (hu : Tryz.prog.underlying t = some d) (hd : d.isRow = true) (hct : Tryz.prog.cellTypes Tryz.prog.depth t = some (List.replicate n e)) (hn : 0 < n) (hC : Tryz.prog.cellsOf t = n)
    (h : Value.okWide Tryz.prog W .any base t v) : ∃ cs : List Value, v = .agg cs.toArray ∧ cs.length = n ∧ ∀ u ∈ cs, Cell.okWide Tryz.prog W .any base e u := by
  unfold Value.okWide at h
  rw [hu] at h
  have h' : ∃ cs, v = .agg cs ∧ cs.size = Tryz.prog.cellsOf t ∧ Row.okWide Tryz.prog W .any base t cs := by
    cases d <;> first | exact h | cases hd
  obtain ⟨cs, rfl, hs, ts, hts, ⟨m, hm⟩, hcell⟩ := h'
  rw [hct] at hts
  injection hts with hts
  subst hts
  refine ⟨cs.toList, by simp, by simpa [hC] using hs, fun u hu' => ?_⟩
  obtain ⟨i, hi⟩ := List.getElem?_of_mem hu'
  obtain ⟨x, hx, hok⟩ := hcell i u (by simpa using hi)
  have hx' := List.mem_of_getElem? hx
  rw [List.mem_replicate] at hx'
  rw [hx'.2] at hok
  exact hok
theorem ok_u8 {W : World} {base : Nat} {u : Value} (h : Cell.okWide Tryz.prog W .any base 5 u) : ∃ b : UInt8, u = .int .u8 b.toNat := by
  unfold Cell.okWide Cell.ok at h
  rw [Tryz.underlying5] at h
  cases u <;> simp only at h
  rename_i k n
  obtain ⟨rfl, h1, h2⟩ := h
  refine ⟨UInt8.ofNat n.toNat, ?_⟩
  have a1 : (0 : Int) ≤ n := h1
  have a2 : n ≤ 255 := h2
  congr 1
  simp
  omega
theorem ok_f64 {W : World} {base : Nat} {u : Value} (h : Cell.okWide Tryz.prog W .any base 44 u) : ∃ b : Nat, u = .float .f64 b ∧ okStamp b := by
  unfold Cell.okWide Cell.ok at h
  rw [Tryz.underlying44] at h
  cases u <;> simp only at h
  obtain ⟨rfl, h1⟩ := h
  exact ⟨_, rfl, h1⟩
theorem bytes_of {W : World} {base : Nat} : ∀ {cs : List Value}, (∀ u ∈ cs, Cell.okWide Tryz.prog W .any base 5 u) → ∃ l : List UInt8, cs = l.map (fun b => .int .u8 b.toNat)
  | [], _ => ⟨[], rfl⟩
  | u :: r, h => by
    obtain ⟨b, rfl⟩ := ok_u8 (h u List.mem_cons_self)
    obtain ⟨l, rfl⟩ := bytes_of (fun x hx => h x (List.mem_cons_of_mem _ hx))
    exact ⟨b :: l, rfl⟩
theorem open_id {W : World} {base : Nat} {v : Value} (h : Value.okWide Tryz.prog W .any base 43 v) : ∃ x : ID, v = .agg (encId x).toArray := by
  obtain ⟨cs, rfl, hl, hc⟩ := okWide_cells Tryz.underlying43 rfl (n := 32) (e := 5) (by kernel_rfl) (by decide) (by kernel_rfl) h
  obtain ⟨l, rfl⟩ := bytes_of hc
  refine ⟨⟨l, by simpa using hl⟩, ?_⟩
  unfold encId
  rfl
theorem open_stamps {W : World} {base : Nat} {v : Value} (h : Value.okWide Tryz.prog W .any base 64 v) : ∃ a b c : Nat, v = .agg #[.float .f64 a, .float .f64 b, .float .f64 c] ∧ okStamp a ∧ okStamp b ∧ okStamp c := by
  obtain ⟨cs, rfl, hl, hc⟩ := okWide_cells Tryz.underlying64 rfl (n := 3) (e := 44) (by kernel_rfl) (by decide) (by kernel_rfl) h
  match cs, hl with
  | [u0, u1, u2], _ =>
    obtain ⟨a, rfl, ka⟩ := ok_f64 (hc u0 (by simp))
    obtain ⟨b, rfl, kb⟩ := ok_f64 (hc u1 (by simp))
    obtain ⟨c, rfl, kc⟩ := ok_f64 (hc u2 (by simp))
    exact ⟨a, b, c, rfl, ka, kb, kc⟩
end Go.Proofs.YtaeleagkpgbmaaaGreatDoor
