/- Networks that came in, as values of the abstract machine; conditions: none. -/
import Derived.Test.YtgpglcccjkpmdaaDoorOpenB
import Derived.Test.YtgpglcccjkpmdaaDoorNetC
import Derived.Deep.Strs
set_option linter.unusedVariables false
set_option linter.unusedSimpArgs false
namespace Go.Proofs.YtgpglcccjkpmdaaDoor
open Go Go.ChangeShapes Go.WideShapes Go.ChangeAt Go.RowKit Go.Deep
instance : Inhabited Nd := ⟨⟨ByteArray.empty, 0, 0⟩⟩
instance : Inhabited Dv := ⟨⟨ByteArray.empty, 0, 0, 0, 0⟩⟩
section
variable {H : Type} {enc : TypeId × Value → H} {W : World}
theorem int_opens : Opens enc Tryd.prog W 3 (fun z : Int => .v (.int .i64 z)) 1 (fun z => (Lit.int .i64 z).wf = true) := opens_int Tryd.underlying3 (by kernel_rfl)
theorem str_opens : Opens enc Tryd.prog W 9 (fun z : ByteArray => .v (.string z)) 1 (fun z => z.size ≤ maxLen) := opens_str Tryd.underlying9 (by kernel_rfl)
theorem node_opens : Opens enc Tryd.prog W 65 Nd.av 3 (fun x => x.n.size ≤ maxLen) :=
  opens_map (fun x : ByteArray × Int × Int × Unit => ⟨x.1, x.2.1, x.2.2.1⟩) (opens_struct Tryd.underlying65 (by kernel_rfl) (fopens_cons str_opens rfl rfl (fopens_cons int_opens rfl rfl (fopens_cons int_opens rfl rfl (fopens_nil _))))) (fun _ => rfl) (fun a q => q.1)
theorem dev_opens : Opens enc Tryd.prog W 38 Dv.av 5 (fun x => x.n.size ≤ maxLen) :=
  opens_map (fun x : ByteArray × Int × Int × Int × Int × Unit => ⟨x.1, x.2.1, x.2.2.1, x.2.2.2.1, x.2.2.2.2.1⟩) (opens_struct Tryd.underlying38 (by kernel_rfl) (fopens_cons str_opens rfl rfl (fopens_cons int_opens rfl rfl (fopens_cons int_opens rfl rfl (fopens_cons int_opens rfl rfl (fopens_cons int_opens rfl rfl (fopens_nil _))))))) (fun _ => rfl) (fun a q => q.1)
theorem nodes_opens : Opens enc Tryd.prog W 25 (fun L : List Nd => .sl 3 (L.map Nd.av)) 1 (fun L => L.length ≤ maxLen ∧ ∀ r ∈ L, r.n.size ≤ maxLen) := opens_slice Tryd.underlying25 (by kernel_rfl) (by decide) node_opens
theorem devs_opens : Opens enc Tryd.prog W 26 (fun L : List Dv => .sl 5 (L.map Dv.av)) 1 (fun L => L.length ≤ maxLen ∧ ∀ r ∈ L, r.n.size ≤ maxLen) := opens_slice Tryd.underlying26 (by kernel_rfl) (by decide) dev_opens
theorem net_opens : Opens enc Tryd.prog W 28 (fun x : List Nd × List Dv => .ag [.sl 3 (x.1.map Nd.av), .sl 5 (x.2.map Dv.av)]) 2 (fun x => (x.1.length ≤ maxLen ∧ ∀ r ∈ x.1, r.n.size ≤ maxLen) ∧ (x.2.length ≤ maxLen ∧ ∀ r ∈ x.2, r.n.size ≤ maxLen)) :=
  opens_map (fun x : List Nd × List Dv × Unit => (x.1, x.2.1)) (opens_struct Tryd.underlying28 (by kernel_rfl) (fopens_cons nodes_opens rfl rfl (fopens_cons devs_opens rfl rfl (fopens_nil _)))) (fun _ => rfl) (fun a q => ⟨q.1, q.2.1⟩)
end
end Go.Proofs.YtgpglcccjkpmdaaDoor
