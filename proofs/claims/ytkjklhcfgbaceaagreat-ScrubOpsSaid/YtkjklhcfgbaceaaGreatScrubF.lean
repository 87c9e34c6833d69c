/- A part of the proof. -/
import Derived.Test.YtkjklhcfgbaceaaGreatProg
import Derived.Test.YtkjklhcfgbaceaaGreatScrubE
open Go.Proofs.Tryz renaming prog→k0q
open Option.some renaming inj→k0x
open List renaming getElem?_eq_getElem→k0w,getD_eq_getElem?_getD→k0v,getElem?_eq_some_iff→k0t,getElem?_append_right→k1q,getElem?_map→k1z,length_map→k1x,getElem_mem→k1w,length_replicate→k2z,getElem?_set_self→k2y,mem_of_getElem?→k2x,length_take→k2u,take_add_one→k2t,getElem?_set_ne→k3z
open Int renaming toNat_natCast→k0u,natCast_nonneg→k2w
open Nat renaming le_refl→k1v,mul_le_mul_right→k2v
open Bool renaming and_eq_true→k1u
set_option maxRecDepth 20000
namespace Go.Proofs.YtkjklhcfgbaceaaGreat.AL
open Go Go.Proofs
def u1c:J1:=fun t=>match t with
 |1=>some ⟨.func,1,8,[.nilFunc]⟩
 |2=>some ⟨.int .i64,1,8,[(.int .i64 0)]⟩
 |3=>some ⟨.int .i64,1,8,[(.int .i64 0)]⟩
 |4=>some ⟨.bool,1,1,[(.bool false)]⟩
 |5=>some ⟨.int .u8,1,1,[(.int .u8 0)]⟩
 |9=>some ⟨.string,1,16,[(.string ⟨#[]⟩)]⟩
 |12=>some ⟨.int .u64,1,8,[(.int .u64 0)]⟩
 |17=>some ⟨.ptr 275,1,8,[(.pointer none)]⟩
 |21=>some ⟨.int .i32,1,4,[(.int .i32 0)]⟩
 |22=>some ⟨.struct [(0,3),(1,3),(2,3),(3,3)],4,32,[(.int .i64 0),(.int .i64 0),(.int .i64 0),(.int .i64 0)]⟩
 |23=>some ⟨.struct [(0,3),(1,3),(2,3),(3,3)],4,32,[(.int .i64 0),(.int .i64 0),(.int .i64 0),(.int .i64 0)]⟩
 |24=>some ⟨.slice 25,1,24,[(.slice none 0 0)]⟩
 |25=>some ⟨.slice 5,1,24,[(.slice none 0 0)]⟩
 |26=>some ⟨.struct [(0,23),(4,3),(5,24),(6,25),(7,3)],8,96,[(.int .i64 0),(.int .i64 0),(.int .i64 0),(.int .i64 0),(.int .i64 0),(.slice none 0 0),(.slice none 0 0),(.int .i64 0)]⟩
 |27=>some ⟨.struct [(0,23),(4,3),(5,24),(6,25),(7,3)],8,96,[(.int .i64 0),(.int .i64 0),(.int .i64 0),(.int .i64 0),(.int .i64 0),(.slice none 0 0),(.slice none 0 0),(.int .i64 0)]⟩
 |28=>some ⟨.func,1,8,[.nilFunc]⟩
 |_=>none
def u1d:J1:=fun t=>match t with
 |29=>some ⟨.ptr 87,1,8,[(.pointer none)]⟩
 |30=>some ⟨.struct [(0,3),(1,3),(2,3),(3,3),(4,3),(5,3),(6,3),(7,3),(8,23)],12,96,(List.replicate 12 (.int .i64 0))⟩
 |31=>some ⟨.struct [(0,3),(1,3),(2,3),(3,3),(4,3),(5,3),(6,3),(7,3),(8,23)],12,96,(List.replicate 12 (.int .i64 0))⟩
 |33=>some ⟨.func,1,8,[.nilFunc]⟩
 |34=>some ⟨.func,1,8,[.nilFunc]⟩
 |35=>some ⟨.slice 3,1,24,[(.slice none 0 0)]⟩
 |36=>some ⟨.func,1,8,[.nilFunc]⟩
 |37=>some ⟨.func,1,8,[.nilFunc]⟩
 |38=>some ⟨.int .i64,1,8,[(.int .i64 0)]⟩
 |39=>some ⟨.func,1,8,[.nilFunc]⟩
 |40=>some ⟨.array 4 5,4,4,[(.int .u8 0),(.int .u8 0),(.int .u8 0),(.int .u8 0)]⟩
 |41=>some ⟨.struct [(0,3),(1,3),(2,3),(3,3),(4,3),(5,40)],9,48,[(.int .i64 0),(.int .i64 0),(.int .i64 0),(.int .i64 0),(.int .i64 0),(.int .u8 0),(.int .u8 0),(.int .u8 0),(.int .u8 0)]⟩
 |42=>some ⟨.struct [(0,3),(1,3),(2,3),(3,3),(4,3),(5,40)],9,48,[(.int .i64 0),(.int .i64 0),(.int .i64 0),(.int .i64 0),(.int .i64 0),(.int .u8 0),(.int .u8 0),(.int .u8 0),(.int .u8 0)]⟩
 |43=>some ⟨.func,1,8,[.nilFunc]⟩
 |45=>some ⟨.func,1,8,[.nilFunc]⟩
 |46=>some ⟨.func,1,8,[.nilFunc]⟩
 |_=>none
def u1e:J1:=fun t=>match t with
 |47=>some ⟨.func,1,8,[.nilFunc]⟩
 |48=>some ⟨.slice 42,1,24,[(.slice none 0 0)]⟩
 |49=>some ⟨.func,1,8,[.nilFunc]⟩
 |50=>some ⟨.func,1,8,[.nilFunc]⟩
 |51=>some ⟨.func,1,8,[.nilFunc]⟩
 |52=>some ⟨.slice 97,1,24,[(.slice none 0 0)]⟩
 |54=>some ⟨.func,1,8,[.nilFunc]⟩
 |55=>some ⟨.func,1,8,[.nilFunc]⟩
 |56=>some ⟨.func,1,8,[.nilFunc]⟩
 |58=>some ⟨.func,1,8,[.nilFunc]⟩
 |59=>some ⟨.func,1,8,[.nilFunc]⟩
 |60=>some ⟨.func,1,8,[.nilFunc]⟩
 |61=>some ⟨.func,1,8,[.nilFunc]⟩
 |62=>some ⟨.func,1,8,[.nilFunc]⟩
 |63=>some ⟨.func,1,8,[.nilFunc]⟩
 |64=>some ⟨.func,1,8,[.nilFunc]⟩
 |_=>none
def u1f:J1:=fun t=>match t with
 |65=>some ⟨.slice 4,1,24,[(.slice none 0 0)]⟩
 |66=>some ⟨.func,1,8,[.nilFunc]⟩
 |67=>some ⟨.func,1,8,[.nilFunc]⟩
 |68=>some ⟨.func,1,8,[.nilFunc]⟩
 |69=>some ⟨.func,1,8,[.nilFunc]⟩
 |70=>some ⟨.func,1,8,[.nilFunc]⟩
 |71=>some ⟨.ptr 114,1,8,[(.pointer none)]⟩
 |73=>some ⟨.func,1,8,[.nilFunc]⟩
 |74=>some ⟨.func,1,8,[.nilFunc]⟩
 |75=>some ⟨.func,1,8,[.nilFunc]⟩
 |76=>some ⟨.func,1,8,[.nilFunc]⟩
 |77=>some ⟨.func,1,8,[.nilFunc]⟩
 |78=>some ⟨.func,1,8,[.nilFunc]⟩
 |79=>some ⟨.map 3 77,1,8,[(.map none)]⟩
 |81=>some ⟨.func,1,8,[.nilFunc]⟩
 |82=>some ⟨.func,1,8,[.nilFunc]⟩
 |_=>none
def u1g:J1:=fun t=>match t with
 |83=>some ⟨.func,1,8,[.nilFunc]⟩
 |84=>some ⟨.slice 122,1,24,[(.slice none 0 0)]⟩
 |85=>some ⟨.slice 129,1,24,[(.slice none 0 0)]⟩
 |86=>some ⟨.struct [(0,84),(1,85),(2,4),(3,4),(4,3),(5,3)],6,72,[(.slice none 0 0),(.slice none 0 0),(.bool false),(.bool false),(.int .i64 0),(.int .i64 0)]⟩
 |87=>some ⟨.struct [(0,84),(1,85),(2,4),(3,4),(4,3),(5,3)],6,72,[(.slice none 0 0),(.slice none 0 0),(.bool false),(.bool false),(.int .i64 0),(.int .i64 0)]⟩
 |88=>some ⟨.func,1,8,[.nilFunc]⟩
 |89=>some ⟨.ptr 91,1,8,[(.pointer none)]⟩
 |90=>some ⟨.struct [(0,31),(12,3),(13,3),(14,35),(15,24)],16,160,[(.int .i64 0),(.int .i64 0),(.int .i64 0),(.int .i64 0),(.int .i64 0),(.int .i64 0),(.int .i64 0),(.int .i64 0),(.int .i64 0),(.int .i64 0),(.int .i64 0),(.int .i64 0),(.int .i64 0),(.int .i64 0),(.slice none 0 0),(.slice none 0 0)]⟩
 |91=>some ⟨.struct [(0,31),(12,3),(13,3),(14,35),(15,24)],16,160,[(.int .i64 0),(.int .i64 0),(.int .i64 0),(.int .i64 0),(.int .i64 0),(.int .i64 0),(.int .i64 0),(.int .i64 0),(.int .i64 0),(.int .i64 0),(.int .i64 0),(.int .i64 0),(.int .i64 0),(.int .i64 0),(.slice none 0 0),(.slice none 0 0)]⟩
 |92=>some ⟨.func,1,8,[.nilFunc]⟩
 |93=>some ⟨.func,1,8,[.nilFunc]⟩
 |95=>some ⟨.func,1,8,[.nilFunc]⟩
 |96=>some ⟨.struct [(0,3),(1,25)],2,32,[(.int .i64 0),(.slice none 0 0)]⟩
 |97=>some ⟨.struct [(0,3),(1,25)],2,32,[(.int .i64 0),(.slice none 0 0)]⟩
 |98=>some ⟨.func,1,8,[.nilFunc]⟩
 |100=>some ⟨.func,1,8,[.nilFunc]⟩
 |_=>none
def u1h:J1:=fun t=>match t with
 |102=>some ⟨.func,1,8,[.nilFunc]⟩
 |103=>some ⟨.func,1,8,[.nilFunc]⟩
 |104=>some ⟨.struct [(0,3),(1,3),(2,3),(3,3),(4,3),(5,25)],6,64,[(.int .i64 0),(.int .i64 0),(.int .i64 0),(.int .i64 0),(.int .i64 0),(.slice none 0 0)]⟩
 |105=>some ⟨.struct [(0,3),(1,3),(2,3),(3,3),(4,3),(5,25)],6,64,[(.int .i64 0),(.int .i64 0),(.int .i64 0),(.int .i64 0),(.int .i64 0),(.slice none 0 0)]⟩
 |106=>some ⟨.func,1,8,[.nilFunc]⟩
 |107=>some ⟨.func,1,8,[.nilFunc]⟩
 |108=>some ⟨.func,1,8,[.nilFunc]⟩
 |109=>some ⟨.func,1,8,[.nilFunc]⟩
 |110=>some ⟨.func,1,8,[.nilFunc]⟩
 |111=>some ⟨.func,1,8,[.nilFunc]⟩
 |112=>some ⟨.func,1,8,[.nilFunc]⟩
 |113=>some ⟨.struct [(0,112),(1,3),(2,23),(6,3),(7,3),(8,3),(9,3),(10,3)],11,88,[.nilFunc,(.int .i64 0),(.int .i64 0),(.int .i64 0),(.int .i64 0),(.int .i64 0),(.int .i64 0),(.int .i64 0),(.int .i64 0),(.int .i64 0),(.int .i64 0)]⟩
 |114=>some ⟨.struct [(0,112),(1,3),(2,23),(6,3),(7,3),(8,3),(9,3),(10,3)],11,88,[.nilFunc,(.int .i64 0),(.int .i64 0),(.int .i64 0),(.int .i64 0),(.int .i64 0),(.int .i64 0),(.int .i64 0),(.int .i64 0),(.int .i64 0),(.int .i64 0)]⟩
 |115=>some ⟨.func,1,8,[.nilFunc]⟩
 |116=>some ⟨.func,1,8,[.nilFunc]⟩
 |117=>some ⟨.struct [(0,3),(1,3),(2,3),(3,3),(4,3),(5,3),(6,25)],7,72,[(.int .i64 0),(.int .i64 0),(.int .i64 0),(.int .i64 0),(.int .i64 0),(.int .i64 0),(.slice none 0 0)]⟩
 |_=>none
def u1i:J1:=fun t=>match t with
 |118=>some ⟨.struct [(0,3),(1,3),(2,3),(3,3),(4,3),(5,3),(6,25)],7,72,[(.int .i64 0),(.int .i64 0),(.int .i64 0),(.int .i64 0),(.int .i64 0),(.int .i64 0),(.slice none 0 0)]⟩
 |119=>some ⟨.func,1,8,[.nilFunc]⟩
 |120=>some ⟨.func,1,8,[.nilFunc]⟩
 |121=>some ⟨.struct [(0,25),(1,4),(2,3),(3,35)],4,64,[(.slice none 0 0),(.bool false),(.int .i64 0),(.slice none 0 0)]⟩
 |122=>some ⟨.struct [(0,25),(1,4),(2,3),(3,35)],4,64,[(.slice none 0 0),(.bool false),(.int .i64 0),(.slice none 0 0)]⟩
 |123=>some ⟨.ptr 122,1,8,[(.pointer none)]⟩
 |124=>some ⟨.func,1,8,[.nilFunc]⟩
 |125=>some ⟨.func,1,8,[.nilFunc]⟩
 |126=>some ⟨.func,1,8,[.nilFunc]⟩
 |127=>some ⟨.func,1,8,[.nilFunc]⟩
 |128=>some ⟨.struct [(0,3),(1,25)],2,32,[(.int .i64 0),(.slice none 0 0)]⟩
 |129=>some ⟨.struct [(0,3),(1,25)],2,32,[(.int .i64 0),(.slice none 0 0)]⟩
 |130=>some ⟨.func,1,8,[.nilFunc]⟩
 |131=>some ⟨.func,1,8,[.nilFunc]⟩
 |132=>some ⟨.ptr 134,1,8,[(.pointer none)]⟩
 |133=>some ⟨.struct [(0,29),(1,3)],2,16,[(.pointer none),(.int .i64 0)]⟩
 |_=>none
def u1j:J1:=fun t=>match t with
 |134=>some ⟨.struct [(0,29),(1,3)],2,16,[(.pointer none),(.int .i64 0)]⟩
 |135=>some ⟨.func,1,8,[.nilFunc]⟩
 |136=>some ⟨.func,1,8,[.nilFunc]⟩
 |137=>some ⟨.func,1,8,[.nilFunc]⟩
 |138=>some ⟨.func,1,8,[.nilFunc]⟩
 |140=>some ⟨.func,1,8,[.nilFunc]⟩
 |142=>some ⟨.func,1,8,[.nilFunc]⟩
 |143=>some ⟨.func,1,8,[.nilFunc]⟩
 |144=>some ⟨.func,1,8,[.nilFunc]⟩
 |145=>some ⟨.func,1,8,[.nilFunc]⟩
 |146=>some ⟨.func,1,8,[.nilFunc]⟩
 |147=>some ⟨.func,1,8,[.nilFunc]⟩
 |148=>some ⟨.func,1,8,[.nilFunc]⟩
 |149=>some ⟨.func,1,8,[.nilFunc]⟩
 |150=>some ⟨.int .u64,1,8,[(.int .u64 0)]⟩
 |151=>some ⟨.func,1,8,[.nilFunc]⟩
 |_=>none
def u1k:J1:=fun t=>match t with
 |152=>some ⟨.func,1,8,[.nilFunc]⟩
 |153=>some ⟨.func,1,8,[.nilFunc]⟩
 |154=>some ⟨.struct [(0,25)],1,24,[(.slice none 0 0)]⟩
 |155=>some ⟨.struct [(0,25)],1,24,[(.slice none 0 0)]⟩
 |156=>some ⟨.func,1,8,[.nilFunc]⟩
 |157=>some ⟨.ptr 31,1,8,[(.pointer none)]⟩
 |158=>some ⟨.ptr 3,1,8,[(.pointer none)]⟩
 |159=>some ⟨.func,1,8,[.nilFunc]⟩
 |160=>some ⟨.func,1,8,[.nilFunc]⟩
 |161=>some ⟨.func,1,8,[.nilFunc]⟩
 |162=>some ⟨.func,1,8,[.nilFunc]⟩
 |163=>some ⟨.func,1,8,[.nilFunc]⟩
 |164=>some ⟨.func,1,8,[.nilFunc]⟩
 |165=>some ⟨.func,1,8,[.nilFunc]⟩
 |166=>some ⟨.func,1,8,[.nilFunc]⟩
 |167=>some ⟨.func,1,8,[.nilFunc]⟩
 |_=>none
def u1m:J1:=fun t=>match t with
 |168=>some ⟨.func,1,8,[.nilFunc]⟩
 |169=>some ⟨.func,1,8,[.nilFunc]⟩
 |170=>some ⟨.func,1,8,[.nilFunc]⟩
 |171=>some ⟨.func,1,8,[.nilFunc]⟩
 |172=>some ⟨.func,1,8,[.nilFunc]⟩
 |174=>some ⟨.func,1,8,[.nilFunc]⟩
 |176=>some ⟨.func,1,8,[.nilFunc]⟩
 |177=>some ⟨.ptr 208,1,8,[(.pointer none)]⟩
 |178=>some ⟨.func,1,8,[.nilFunc]⟩
 |179=>some ⟨.slice 158,1,24,[(.slice none 0 0)]⟩
 |180=>some ⟨.func,1,8,[.nilFunc]⟩
 |181=>some ⟨.func,1,8,[.nilFunc]⟩
 |182=>some ⟨.func,1,8,[.nilFunc]⟩
 |183=>some ⟨.func,1,8,[.nilFunc]⟩
 |184=>some ⟨.func,1,8,[.nilFunc]⟩
 |185=>some ⟨.func,1,8,[.nilFunc]⟩
 |_=>none
def v3r:J1:=fun t=>match t with
 |186=>some ⟨.func,1,8,[.nilFunc]⟩
 |187=>some ⟨.int .i64,1,8,[(.int .i64 0)]⟩
 |189=>some ⟨.func,1,8,[.nilFunc]⟩
 |190=>some ⟨.func,1,8,[.nilFunc]⟩
 |191=>some ⟨.func,1,8,[.nilFunc]⟩
 |192=>some ⟨.func,1,8,[.nilFunc]⟩
 |193=>some ⟨.func,1,8,[.nilFunc]⟩
 |194=>some ⟨.func,1,8,[.nilFunc]⟩
 |195=>some ⟨.int .u32,1,4,[(.int .u32 0)]⟩
 |196=>some ⟨.func,1,8,[.nilFunc]⟩
 |197=>some ⟨.int .u64,1,8,[(.int .u64 0)]⟩
 |198=>some ⟨.ptr 155,1,8,[(.pointer none)]⟩
 |199=>some ⟨.func,1,8,[.nilFunc]⟩
 |200=>some ⟨.func,1,8,[.nilFunc]⟩
 |201=>some ⟨.func,1,8,[.nilFunc]⟩
 |202=>some ⟨.func,1,8,[.nilFunc]⟩
 |_=>none
def v3s:J1:=fun t=>match t with
 |203=>some ⟨.func,1,8,[.nilFunc]⟩
 |204=>some ⟨.func,1,8,[.nilFunc]⟩
 |205=>some ⟨.func,1,8,[.nilFunc]⟩
 |206=>some ⟨.func,1,8,[.nilFunc]⟩
 |207=>some ⟨.func,1,8,[.nilFunc]⟩
 |208=>some ⟨.struct [(0,25)],1,24,[(.slice none 0 0)]⟩
 |209=>some ⟨.func,1,8,[.nilFunc]⟩
 |210=>some ⟨.ptr 212,1,8,[(.pointer none)]⟩
 |211=>some ⟨.struct [(0,24),(1,24),(2,3)],3,56,[(.slice none 0 0),(.slice none 0 0),(.int .i64 0)]⟩
 |212=>some ⟨.struct [(0,24),(1,24),(2,3)],3,56,[(.slice none 0 0),(.slice none 0 0),(.int .i64 0)]⟩
 |213=>some ⟨.func,1,8,[.nilFunc]⟩
 |214=>some ⟨.func,1,8,[.nilFunc]⟩
 |215=>some ⟨.func,1,8,[.nilFunc]⟩
 |217=>some ⟨.func,1,8,[.nilFunc]⟩
 |219=>some ⟨.func,1,8,[.nilFunc]⟩
 |220=>some ⟨.func,1,8,[.nilFunc]⟩
 |_=>none
def v3t:J1:=fun t=>match t with
 |221=>some ⟨.func,1,8,[.nilFunc]⟩
 |222=>some ⟨.int .u64,1,8,[(.int .u64 0)]⟩
 |223=>some ⟨.func,1,8,[.nilFunc]⟩
 |224=>some ⟨.func,1,8,[.nilFunc]⟩
 |225=>some ⟨.func,1,8,[.nilFunc]⟩
 |226=>some ⟨.func,1,8,[.nilFunc]⟩
 |227=>some ⟨.func,1,8,[.nilFunc]⟩
 |228=>some ⟨.func,1,8,[.nilFunc]⟩
 |229=>some ⟨.func,1,8,[.nilFunc]⟩
 |230=>some ⟨.func,1,8,[.nilFunc]⟩
 |231=>some ⟨.func,1,8,[.nilFunc]⟩
 |232=>some ⟨.ptr 257,1,8,[(.pointer none)]⟩
 |233=>some ⟨.func,1,8,[.nilFunc]⟩
 |234=>some ⟨.func,1,8,[.nilFunc]⟩
 |235=>some ⟨.func,1,8,[.nilFunc]⟩
 |236=>some ⟨.func,1,8,[.nilFunc]⟩
 |_=>none
def v3u:J1:=fun t=>match t with
 |237=>some ⟨.ptr 261,1,8,[(.pointer none)]⟩
 |238=>some ⟨.func,1,8,[.nilFunc]⟩
 |240=>some ⟨.func,1,8,[.nilFunc]⟩
 |241=>some ⟨.func,1,8,[.nilFunc]⟩
 |243=>some ⟨.func,1,8,[.nilFunc]⟩
 |244=>some ⟨.func,1,8,[.nilFunc]⟩
 |245=>some ⟨.func,1,8,[.nilFunc]⟩
 |246=>some ⟨.func,1,8,[.nilFunc]⟩
 |248=>some ⟨.func,1,8,[.nilFunc]⟩
 |249=>some ⟨.func,1,8,[.nilFunc]⟩
 |250=>some ⟨.func,1,8,[.nilFunc]⟩
 |251=>some ⟨.ptr 222,1,8,[(.pointer none)]⟩
 |252=>some ⟨.func,1,8,[.nilFunc]⟩
 |253=>some ⟨.func,1,8,[.nilFunc]⟩
 |254=>some ⟨.array 510 5,510,510,(List.replicate 510 (.int .u8 0))⟩
 |255=>some ⟨.array 256 3,256,2048,(List.replicate 256 (.int .i64 0))⟩
 |_=>none
def v3v:J1:=fun t=>match t with
 |256=>some ⟨.struct [(0,254),(510,255),(766,4)],767,2568,(List.replicate 510 (.int .u8 0)++List.replicate 256 (.int .i64 0)++[(.bool false)])⟩
 |257=>some ⟨.struct [(0,254),(510,255),(766,4)],767,2568,(List.replicate 510 (.int .u8 0)++List.replicate 256 (.int .i64 0)++[(.bool false)])⟩
 |258=>some ⟨.func,1,8,[.nilFunc]⟩
 |259=>some ⟨.func,1,8,[.nilFunc]⟩
 |260=>some ⟨.array 256 195,256,1024,(List.replicate 256 (.int .u32 0))⟩
 |261=>some ⟨.array 256 195,256,1024,(List.replicate 256 (.int .u32 0))⟩
 |262=>some ⟨.func,1,8,[.nilFunc]⟩
 |270=>some ⟨.func,1,8,[.nilFunc]⟩
 |271=>some ⟨.ptr 5,1,8,[(.pointer none)]⟩
 |274=>some ⟨.struct [(0,12),(1,12),(2,195),(3,268),(4,5),(5,5),(6,269),(7,270),(8,271),(9,272),(10,273)],11,48,[(.int .u64 0),(.int .u64 0),(.int .u32 0),(.int .u8 0),(.int .u8 0),(.int .u8 0),(.int .u8 0),.nilFunc,(.pointer none),(.int .i32 0),(.int .i32 0)]⟩
 |276=>some ⟨.func,1,8,[.nilFunc]⟩
 |_=>none
def tab:J1:=fun t=>cond (Nat.ble t 133) (cond (Nat.ble t 64) (cond (Nat.ble t 28) (u1c t) (cond (Nat.ble t 46) (u1d t) (u1e t))) (cond (Nat.ble t 100) (cond (Nat.ble t 82) (u1f t) (u1g t)) (cond (Nat.ble t 117) (u1h t) (u1i t)))) (cond (Nat.ble t 202) (cond (Nat.ble t 167) (cond (Nat.ble t 151) (u1j t) (u1k t)) (cond (Nat.ble t 185) (u1m t) (v3r t))) (cond (Nat.ble t 236) (cond (Nat.ble t 220) (v3s t) (v3t t)) (cond (Nat.ble t 255) (v3u t) (v3v t))))
theorem q0q {α:Type}{b:Bool}{x y:Option α}{i:α}(h:cond b x y=some i):x=some i∨y=some i:=by cases b;exact .inr h;exact .inl h
theorem hT0:∀ t i,u1c t=some i→z3d k0q t=some i:=by
 intro t i h
 unfold u1c at h
 split at h <;> first|(cases h;kernel_rfl)|cases h
theorem hT1:∀ t i,u1d t=some i→z3d k0q t=some i:=by
 intro t i h
 unfold u1d at h
 split at h <;> first|(cases h;kernel_rfl)|cases h
theorem hT2:∀ t i,u1e t=some i→z3d k0q t=some i:=by
 intro t i h
 unfold u1e at h
 split at h <;> first|(cases h;kernel_rfl)|cases h
theorem hT3:∀ t i,u1f t=some i→z3d k0q t=some i:=by
 intro t i h
 unfold u1f at h
 split at h <;> first|(cases h;kernel_rfl)|cases h
theorem hT4:∀ t i,u1g t=some i→z3d k0q t=some i:=by
 intro t i h
 unfold u1g at h
 split at h <;> first|(cases h;kernel_rfl)|cases h
theorem hT5:∀ t i,u1h t=some i→z3d k0q t=some i:=by
 intro t i h
 unfold u1h at h
 split at h <;> first|(cases h;kernel_rfl)|cases h
theorem hT6:∀ t i,u1i t=some i→z3d k0q t=some i:=by
 intro t i h
 unfold u1i at h
 split at h <;> first|(cases h;kernel_rfl)|cases h
theorem hT7:∀ t i,u1j t=some i→z3d k0q t=some i:=by
 intro t i h
 unfold u1j at h
 split at h <;> first|(cases h;kernel_rfl)|cases h
theorem hT8:∀ t i,u1k t=some i→z3d k0q t=some i:=by
 intro t i h
 unfold u1k at h
 split at h <;> first|(cases h;kernel_rfl)|cases h
theorem hT9:∀ t i,u1m t=some i→z3d k0q t=some i:=by
 intro t i h
 unfold u1m at h
 split at h <;> first|(cases h;kernel_rfl)|cases h
theorem u3m:∀ t i,v3r t=some i→z3d k0q t=some i:=by
 intro t i h
 unfold v3r at h
 split at h <;> first|(cases h;kernel_rfl)|cases h
theorem u3n:∀ t i,v3s t=some i→z3d k0q t=some i:=by
 intro t i h
 unfold v3s at h
 split at h <;> first|(cases h;kernel_rfl)|cases h
theorem u3p:∀ t i,v3t t=some i→z3d k0q t=some i:=by
 intro t i h
 unfold v3t at h
 split at h <;> first|(cases h;kernel_rfl)|cases h
theorem u3q:∀ t i,v3u t=some i→z3d k0q t=some i:=by
 intro t i h
 unfold v3u at h
 split at h <;> first|(cases h;kernel_rfl)|cases h
theorem u3r:∀ t i,v3v t=some i→z3d k0q t=some i:=by
 intro t i h
 unfold v3v at h
 split at h <;> first|(cases h;kernel_rfl)|cases h
theorem hT:TOk k0q tab:=by
 intro t i h
 unfold tab at h
 rcases q0q h with h|h
 ·rcases q0q h with h|h
  ·rcases q0q h with h|h
   ·exact hT0 t i h
   ·rcases q0q h with h|h
    ·exact hT1 t i h
    ·exact hT2 t i h
  ·rcases q0q h with h|h
   ·rcases q0q h with h|h
    ·exact hT3 t i h
    ·exact hT4 t i h
   ·rcases q0q h with h|h
    ·exact hT5 t i h
    ·exact hT6 t i h
 ·rcases q0q h with h|h
  ·rcases q0q h with h|h
   ·rcases q0q h with h|h
    ·exact hT7 t i h
    ·exact hT8 t i h
   ·rcases q0q h with h|h
    ·exact hT9 t i h
    ·exact u3m t i h
  ·rcases q0q h with h|h
   ·rcases q0q h with h|h
    ·exact u3n t i h
    ·exact u3p t i h
   ·rcases q0q h with h|h
    ·exact u3q t i h
    ·exact u3r t i h
theorem u7:Tryz.prog.follows .mixedOrders=true:=by kernel_rfl
abbrev z6a:FuncId:=3
abbrev y1h:FuncId:=6
abbrev y9b:FuncId:=8
abbrev z1m:FuncId:=9
abbrev y5v:FuncId:=10
abbrev y3m:FuncId:=11
abbrev y9c:FuncId:=12
abbrev q9a:FuncId:=13
abbrev q7f:FuncId:=14
abbrev q5f:FuncId:=15
abbrev x3s:FuncId:=16
abbrev y5w:FuncId:=17
abbrev y3n:FuncId:=19
abbrev y3p:FuncId:=20
abbrev z8x:FuncId:=21
abbrev z1n:FuncId:=24
abbrev x3t:FuncId:=25
abbrev z6k:FuncId:=30
abbrev y9d:FuncId:=31
abbrev x3u:FuncId:=32
abbrev y5x:FuncId:=33
abbrev z7e:FuncId:=34
abbrev y1i:FuncId:=35
abbrev x6t:FuncId:=36
abbrev z3v:FuncId:=37
abbrev y3q:FuncId:=38
abbrev y3r:FuncId:=39
abbrev z8y:FuncId:=40
abbrev y1j:FuncId:=41
abbrev y1k:FuncId:=42
abbrev y1m:FuncId:=43
abbrev q6b:FuncId:=44
abbrev w2d:FuncId:=45
abbrev x6u:FuncId:=47
abbrev z6m:FuncId:=48
abbrev z3w:FuncId:=49
abbrev z7f:FuncId:=50
abbrev z3x:FuncId:=51
abbrev x3v:FuncId:=53
abbrev q2u:FuncId:=54
abbrev z8z:FuncId:=56
abbrev w2e:FuncId:=57
abbrev z9a:FuncId:=58
abbrev q9b:FuncId:=59
abbrev z9b:FuncId:=60
abbrev z9c:FuncId:=61
abbrev x6v:FuncId:=62
abbrev w7u:FuncId:=63
abbrev x6w:FuncId:=64
abbrev z1p:FuncId:=65
abbrev x3w:FuncId:=66
abbrev y3s:FuncId:=67
abbrev y3t:FuncId:=68
abbrev z7g:FuncId:=69
abbrev q0t:FuncId:=70
abbrev q8b:FuncId:=71
abbrev y1n:FuncId:=72
abbrev q7g:FuncId:=73
abbrev x6x:FuncId:=74
abbrev z2r:FuncId:=75
abbrev w7v:FuncId:=77
abbrev y9e:FuncId:=78
abbrev y1p:FuncId:=79
abbrev z2s:FuncId:=80
abbrev z2t:FuncId:=81
abbrev z9d:FuncId:=82
abbrev y5y:FuncId:=83
abbrev q2m:FuncId:=84
abbrev q8c:FuncId:=85
abbrev q5g:FuncId:=86
abbrev z7h:FuncId:=87
abbrev z7i:FuncId:=88
abbrev x6y:FuncId:=89
abbrev q6t:FuncId:=90
abbrev q6j:FuncId:=91
abbrev y9f:FuncId:=92
abbrev q5h:FuncId:=93
abbrev z9e:FuncId:=94
abbrev y5z:FuncId:=99
abbrev z3y:FuncId:=100
abbrev y1q:FuncId:=103
abbrev y3u:FuncId:=104
abbrev z1q:FuncId:=105
abbrev z9f:FuncId:=106
abbrev z9g:FuncId:=107
abbrev w2f:FuncId:=108
abbrev q1z:FuncId:=109
abbrev y6a:FuncId:=110
abbrev y6b:FuncId:=111
abbrev x3x:FuncId:=112
abbrev x6z:FuncId:=113
abbrev w2g:FuncId:=114
abbrev y9g:FuncId:=115
abbrev x7a:FuncId:=116
abbrev v3w:FuncId:=117
abbrev z6n:FuncId:=118
abbrev x7b:FuncId:=119
abbrev y1r:FuncId:=120
abbrev q6c:FuncId:=121
abbrev q3d:FuncId:=122
abbrev q2a:FuncId:=123
abbrev y1s:FuncId:=124
abbrev w2h:FuncId:=125
abbrev y9h:FuncId:=126
abbrev q6u:FuncId:=127
abbrev z9h:FuncId:=128
abbrev x3y:FuncId:=129
abbrev z6p:FuncId:=130
abbrev z2u:FuncId:=131
abbrev w2i:FuncId:=132
abbrev y1t:FuncId:=133
abbrev x7c:FuncId:=134
abbrev y3v:FuncId:=135
abbrev x7d:FuncId:=136
abbrev w2j:FuncId:=137
abbrev x7e:FuncId:=158
abbrev y6c:FuncId:=159
abbrev z9i:FuncId:=160
abbrev q7h:FuncId:=161
abbrev w7w:FuncId:=162
abbrev w7x:FuncId:=163
abbrev q0r:FuncId:=164
abbrev w2k:FuncId:=165
abbrev q6v:FuncId:=166
abbrev y3w:FuncId:=167
abbrev y6d:FuncId:=168
abbrev x7f:FuncId:=169
abbrev q9u:FuncId:=170
abbrev q9v:FuncId:=171
abbrev x3z:FuncId:=172
abbrev x7g:FuncId:=173
abbrev z6q:FuncId:=174
abbrev z0e:FuncId:=175
abbrev y9i:FuncId:=176
abbrev q6w:FuncId:=177
abbrev y6e:FuncId:=178
abbrev q5i:FuncId:=195
abbrev y9j:FuncId:=196
abbrev q3n:FuncId:=197
abbrev q5j:FuncId:=198
abbrev w2m:FuncId:=199
abbrev v3x:FuncId:=200
abbrev q2i:FuncId:=201
abbrev q1i:FuncId:=202
abbrev x0t:FuncId:=203
abbrev w2n:FuncId:=204
abbrev q7j:FuncId:=205
abbrev z3z:FuncId:=206
abbrev q9c:FuncId:=207
abbrev y6f:FuncId:=208
abbrev x7h:FuncId:=209
abbrev z7j:FuncId:=210
abbrev z2v:FuncId:=221
abbrev q6x:FuncId:=222
abbrev q5k:FuncId:=223
abbrev y6g:FuncId:=224
abbrev x7i:FuncId:=225
abbrev z7k:FuncId:=226
abbrev y6h:FuncId:=227
abbrev y6i:FuncId:=228
abbrev z9j:FuncId:=232
abbrev V1:TypeId:=3
abbrev x6:TypeId:=5
abbrev v3y:TypeId:=24
abbrev y9:TypeId:=25
abbrev V3:TypeId:=29
abbrev y2v:TypeId:=31
abbrev q1j:TypeId:=38
abbrev q1k:TypeId:=52
abbrev q8d:TypeId:=85
abbrev z4a:TypeId:=87
abbrev q6k:TypeId:=91
abbrev W0:TypeId:=97
abbrev q1m:TypeId:=105
abbrev x7j:TypeId:=114
abbrev q1n:TypeId:=118
abbrev Y7:TypeId:=122
abbrev Y4:TypeId:=129
abbrev x7k:TypeId:=134
abbrev z7m:TypeId:=155
abbrev z1r:TypeId:=158
abbrev z1s:TypeId:=198
abbrev y1u:TypeId:=208
abbrev v3z:TypeId:=212
abbrev q5m:TypeId:=232
abbrev q8e:TypeId:=257
abbrev q2f:TypeId:=261
abbrev z9k:TypeId:=197
end Go.Proofs.YtkjklhcfgbaceaaGreat.AL
/- The layer 06 (disk): a device as a plain value;its small functions walked. -/
namespace Go.Proofs.YtkjklhcfgbaceaaGreat.AL
open Go Go.Proofs
abbrev u8 (b:UInt8):PV:=.raw (.int .u8 (b.toNat:Int))
abbrev x9:=List UInt8
def bx (l:x9):List (List PV):=l.map fun b=>[u8 b]
abbrev bP (l:x9):PV:=.sl 1 (bx l)
abbrev bA (l:x9):AV:=.p (bP l)
def ix (l:List Int):List (List PV):=l.map fun n=>[.raw (.int .i64 n)]
abbrev iP (l:List Int):PV:=.sl 1 (ix l)
structure Cell where
 s:x9
 lost:Bool
 drop:Int
 miss:List Int
 deriving Inhabited,DecidableEq
def Cell.pv (c:Cell):List PV:=[bP c.s,.raw (.bool c.lost),.raw (.int .i64 c.drop),iP c.miss]
structure Wr where
 at_:Int
 s:x9
 deriving Inhabited,DecidableEq
def Wr.pv (x:Wr):List PV:=[.raw (.int .i64 x.at_),bP x.s]
structure Dev where
 cells:List Cell
 waits:List Wr
 armed:Bool
 dead:Bool
 left:Int
 ops:Int
 deriving DecidableEq
def cx (l:List Cell):List (List PV):=l.map Cell.pv
def wx (l:List Wr):List (List PV):=l.map Wr.pv
abbrev q2x (D:Dev)(b c:Nat):ABlk:=.cells z4a [.msl b 4 0 D.cells.length,.msl c 2 0 D.waits.length,bl D.armed,bl D.dead,i64 D.left,i64 D.ops]
abbrev Y3 (D:Dev):List ABlk:=[q2x D 1 2,.row Y7 4 (cx D.cells),.row Y4 2 (wx D.waits)]
theorem y6j (D:Dev):AFm k0q 3 y3n [.ref 0 0] (Y3 D) (Q9 (i64 D.cells.length) (Y3 D)):=by
 refine Z6 3 hT Tryz.func19 rfl rfl Tryz.ntmps19 rfl rfl ?_
 refine y6 hT ?_
 refine u6 (y6 hT ?_)
 refine y8 ?_
 refine x7 ?_
 refine y6 hT ?_
 refine u5 ?_
 exact x8 [0,1,2] ⟨rfl,rfl⟩ rfl
theorem z5m (D:Dev):AFm k0q 3 y1n [.ref 0 0] (Y3 D) (Q9 (bl D.dead) (Y3 D)):=by
 refine Z6 3 hT Tryz.func72 rfl rfl Tryz.ntmps72 rfl rfl ?_
 refine y6 hT ?_
 refine y6 hT ?_
 refine u5 ?_
 exact x8 [0,1,2] ⟨rfl,rfl⟩ rfl
def Dev.has (D:Dev)(a:Int):Bool:=decide (a≥0)&&decide (a<(D.cells.length:Int))
theorem z9m (D:Dev)(a:Int):AFm k0q 3 y3t [.ref 0 0,i64 a] (Y3 D) (Q9 (bl (D.has a)) (Y3 D)):=by
 refine Z6 3 hT Tryz.func68 rfl rfl Tryz.ntmps68 rfl rfl ?_
 refine y6 hT ?_
 unfold Dev.has
 refine y6 hT ?_
 refine u9 (fun h=>?_) (fun h=>?_)
 ·refine Q1 (Z7 [0,1,2] (y6j D) rfl rfl rfl) ?_
  refine u5 ?_
  refine x8 [0,1,2] ⟨?_,rfl⟩ rfl
  rw[h];rfl
 ·refine u5 ?_
  refine x8 [0,1,2] ⟨?_,rfl⟩ rfl
  rw[h];rfl
def Dev.lives (D:Dev):Dev:={ D with dead:=D.dead||(D.armed&&D.left==0),left:=IntKind.i64.wrap (D.left - 1) }
theorem y6k (D:Dev):AFm k0q 3 z9g [.ref 0 0] (Y3 D) (Q9 (bl (!D.lives.dead)) (Y3 D.lives)):=by
 refine Z6 3 hT Tryz.func107 rfl rfl Tryz.ntmps107 rfl rfl ?_
 refine y6 hT ?_
 refine u0 ⟨⟨29,[(0,.ref 0 0)]⟩,Y3 { D with dead:=D.dead||(D.armed&&D.left==0) }⟩ True (y6 hT ?_) (fun _=>?_)
 ·refine u9 (fun h=>?_) (fun h=>?_)
  ·refine y8 (u9 (fun h2=>?_) (fun h2=>?_))
   ·refine y7 hT ?_
    refine⟨?_,trivial⟩
    have h2:(D.left==0)=true:=h2
    rw[h,h2,Bool.true_and,Bool.or_true]
    exact z8 [0,1,2] [0] rfl
   ·refine x7 ⟨?_,trivial⟩
    have h2:(D.left==0)=false:=h2
    rw[h,h2,Bool.true_and,Bool.or_false]
    exact z8 [0,1,2] [0] rfl
  ·refine y8 ?_
   refine x7 ⟨?_,trivial⟩
   rw[h,Bool.false_and,Bool.or_false]
   exact z8 [0,1,2] [0] rfl
 ·refine y6 hT ?_
  refine y6 hT ?_
  refine u5 ?_
  exact x8 [0,1,2] ⟨rfl,rfl⟩ rfl
theorem Z1 (l:x9):(bx l).length=l.length:=by simp[bx]
theorem y1v (l:List Int):(ix l).length=l.length:=by simp[ix]
theorem x4a (l:List Cell):(cx l).length=l.length:=by simp[cx]
theorem y1w (l:List Wr):(wx l).length=l.length:=by simp[wx]
theorem z0f (l:x9)(hl:l.length≤1000000):AF k0q q0t [bA l] [] (Q9 (bA l) []):=by
 have hb:=Z1 l
 generalize hx:bx l=xs at hb
 show AF k0q q0t [.p (.sl 1 (bx l))] [] (Q9 (.p (.sl 1 (bx l))) [])
 rw[hx]
 refine z3q (t:=x6) (n:=xs.length) ?_ rfl
 refine Q8 hT Tryz.func70 rfl rfl Tryz.ntmps70 rfl ?_
 refine y6 hT ?_
 refine u6 (y6 hT ?_)
 intro b hn
 refine y8 (u9 (fun h=>?_) (fun h=>?_))
 ·refine y6 hT ?_
  refine u5 ?_
  rw[hn h]
  exact x3r x6 1 ⟨rfl,rfl⟩
 ·refine x7 ?_
  refine y6 hT ?_
  refine⟨rfl,⟨?_,?_⟩,?_⟩
  ·show (0+xs.length)*1≤_;omega
  ·show 0+xs.length≤_;omega
  refine u5 ?_
  exact x8 [1] ⟨rfl,rfl⟩ rfl
theorem w7y (l:List Int)(hl:l.length≤1000000):AF k0q q8b [.p (iP l)] [] (Q9 (.msl 0 1 0 l.length) [.row V1 1 (ix l)]):=by
 have hb:=y1v l
 rw[← hb]
 show AF k0q q8b [.p (.sl 1 (ix l))] [] (Q9 (.msl 0 1 0 (ix l).length) [.row V1 1 (ix l)])
 generalize ix l=xs at hb
 refine Q8 hT Tryz.func71 rfl rfl Tryz.ntmps71 rfl ?_
 refine y6 hT ?_
 refine u6 (y6 hT ?_)
 intro b hn
 refine y8 (u9 (fun h=>?_) (fun h=>?_))
 ·refine y6 hT ?_
  refine u5 ?_
  rw[hn h]
  exact x3r V1 1 ⟨rfl,rfl⟩
 ·refine x7 ?_
  refine y6 hT ?_
  refine⟨rfl,⟨?_,?_⟩,?_⟩
  ·show (0+xs.length)*8≤_;omega
  ·show 0+xs.length≤_;omega
  refine u5 ?_
  exact x8 [1] ⟨rfl,rfl⟩ rfl
def q3e (l:List Cell)(x:Wr):List Cell:=match l[x.at_.toNat]? with
 |some c=>l.set x.at_.toNat { c with s:=x.s,lost:=false }
 |none=>l
def Dev.done (D:Dev)(x:Wr):Dev:={ D with cells:=q3e D.cells x }
theorem z0g (l:List Cell)(x:Wr):(q3e l x).length=l.length:=by unfold q3e;split <;> simp
theorem y6m {l:List Cell}{i:Nat}{c:Cell}(h:l[i]?=some c):(cx l)[i]?=some c.pv:=by rw[cx,k1z,h];rfl
theorem w2p (l:List Cell)(i:Nat)(c:Cell):cx (l.set i c)=(cx l).set i c.pv:=by simp[cx,List.map_set]
theorem y6n {l:List Wr}{i:Nat}{c:Wr}(h:l[i]?=some c):(wx l)[i]?=some c.pv:=by rw[wx,k1z,h];rfl
theorem z7n {l:List Cell}{x:Wr}{c:Cell}(h:l[x.at_.toNat]?=some c):q3e l x=l.set x.at_.toNat { c with s:=x.s,lost:=false }:=by
 unfold q3e;rw[h]
theorem x0u (D:Dev)(x:Wr)(h0:0≤x.at_)(h1:x.at_.toNat<D.cells.length):AFm k0q 3 y1q [.ref 0 0,.agg [i64 x.at_,bA x.s]] (Y3 D) (Q9 (.tup []) (Y3 (D.done x))):=by
 have hc:=k0w h1
 generalize D.cells[x.at_.toNat]=c at hc
 have e:(D.done x).cells=D.cells.set x.at_.toNat { c with s:=x.s,lost:=false }:=z7n hc
 have el:(D.done x).cells.length=D.cells.length:=z0g _ _
 have hlt:x.at_<(D.cells.length:Int):=by omega
 have g1:(cx D.cells)[0+x.at_.toNat]?=some c.pv:=by rw[Nat.zero_add];exact y6m hc
 have g2:∀ e,((cx D.cells).set (0+x.at_.toNat) e)[0+x.at_.toNat]?=some e:=fun e=>by
  rw[Nat.zero_add];exact k2y (by rw[x4a];exact h1)
 refine Z6 3 hT Tryz.func103 rfl rfl Tryz.ntmps103 rfl rfl ?_
 refine y6 hT ?_
 refine Z3 (Z4 3 [.raw (.int .i64 x.at_),bP x.s] rfl rfl) ?_
 refine Z0 [16,19] [] hT u7 (by rfl) ?_
 refine⟨⟨h0,hlt⟩,?_⟩
 refine Z2 g1 ?_
 refine⟨⟨h0,hlt⟩,?_⟩
 refine Z2 (g2 _) ?_
 refine⟨rfl,?_⟩
 refine x8 [0,1,2] ⟨rfl,?_⟩ rfl
 have el':((D.done x).cells.length:Int)=D.cells.length:=by rw[el]
 show [q2x D 1 2,.row Y7 4 (((cx D.cells).set (0+x.at_.toNat) _).set (0+x.at_.toNat) _),.row Y4 2 (wx D.waits)]=[q2x (D.done x) 1 2,.row Y7 4 (cx (D.done x).cells),.row Y4 2 (wx D.waits)]
 rw[show q2x (D.done x) 1 2=q2x D 1 2 by unfold q2x;rw[el];rfl,e,w2p,List.set_set,Nat.zero_add]
 rfl
def kx (l:List Bool):List (List PV):=l.map fun b=>[.raw (.bool b)]
theorem x4b (l:List Bool):(kx l).length=l.length:=by simp[kx]
def kept (keep:List Bool)(i:Nat):Bool:=decide (0<keep.length)&&keep.getD (i % keep.length) false
def q3v (W:List Wr)(keep:List Bool):Nat→List Cell→List Cell
 |0,cs=>cs
 |i+1,cs=>match kept keep i with
  |true=>q3e (q3v W keep i cs) (W.getD i ⟨0,[]⟩)
  |false=>q3v W keep i cs
theorem q6d (W:List Wr)(keep:List Bool)(cs:List Cell):∀ i,(q3v W keep i cs).length=cs.length
 |0=>rfl
 |i+1=>by
  unfold q3v;split
  ·rw[z0g,q6d W keep cs i]
  ·exact q6d W keep cs i
def Dev.drain (D:Dev)(keep:List Bool):Dev:={ D with cells:=q3v D.waits keep D.waits.length D.cells,waits:=[] }
def Dev.waitsIn (D:Dev):Prop:=∀ x∈D.waits,0≤x.at_∧x.at_<(D.cells.length:Int)
theorem Q0 (n:Int)(h0 : -9223372036854775808≤n)(h:n≤9223372036854775807):IntKind.i64.wrap n=n:=by
 rw[IntKind.wrap_i64];omega
theorem w2q (D:Dev)(keep:List Bool)(hw:D.waitsIn)(hn:D.waits.length≤1000000):AFm k0q 1 z8z [.ref 0 0,.p (.sl 1 (kx keep))] (Y3 D) (Q9 (.tup []) (Y3 (D.drain keep))):=by
 refine Z6 1 hT Tryz.func56 rfl rfl Tryz.ntmps56 rfl rfl ?_
 refine u6 (y6 hT ?_)
 refine x3 ?_
 refine Q3 (fun n s=>∃ (i:Nat) (j:Int) (C:List Cell),n+i=D.waits.length∧j=i∧C=q3v D.waits keep i D.cells∧s=⟨⟨35,[(0,.ref 0 0),(1,.p (.sl 1 (kx keep))),(9,.msl 2 2 0 D.waits.length),(10,i64 D.waits.length),(11,i64 j)]⟩,Y3 { D with cells:=C }⟩) D.waits.length ⟨⟨35,_⟩,[_,_,_]⟩ (z8 [0,1,2] [0,1,9,10,11] rfl) ⟨0,_,_,by omega,rfl,rfl,rfl⟩ ?_
 rintro n s ⟨i,j,C,hni,rfl,hC,rfl⟩
 refine y6 hT ?_
 refine u6 (y8 (u9 (fun h=>?_) (fun h=>?_)))
 ·have hi:i<D.waits.length:=by
   have:=k0z (show decide ((i:Int)<(D.waits.length:Int))=true from h)
   omega
  have hx:=k0w hi
  have hin:=hw _ (k1w hi)
  generalize D.waits[i]=x at hx hin
  have hCl:C.length=D.cells.length:=by rw[hC,q6d]
  refine x7 ?_
  refine u6 (x3 (y6 hT ?_))
  refine⟨⟨k2w _,k0z h⟩,?_⟩
  refine Z2 (show (wx D.waits)[0+((i:Nat):Int).toNat]?=some x.pv by rw[Nat.zero_add,k0u];exact y6n hx) ?_
  refine y6 hT ?_
  have out:∀ b,kept keep i=b→(match b with|true=>q3e C x|false=>C)=q3v D.waits keep (i+1) D.cells:=fun b hb=>by
   have hxd:D.waits.getD i ⟨0,[]⟩=x:=by rw[k0v,hx];rfl
   unfold q3v;rw[hb,hxd,← hC]
  refine u9 (fun h1=>?_) (fun h1=>?_)
  ·have h1':0<keep.length:=by
    have:((kx keep).length:Int) > 0:=k0z h1
    rw[x4b]at this;omega
   have e1:((i:Int).tmod ((kx keep).length:Int))=((i % keep.length:Nat):Int):=by
    rw[x4b,Int.tmod_eq_emod_of_nonneg (k2w _)];exact(Int.natCast_emod i keep.length).symm
   have hlt:i % keep.length<keep.length:=Nat.mod_lt _ h1'
   have hk:=k0w hlt
   generalize keep[i % keep.length]=b at hk
   have hkept:kept keep i=b:=by
    unfold kept;rw[k0v,hk,k1t h1'];rfl
   refine y4v (b:=decide (((kx keep).length:Int)≠0)) (k1t (by rw[x4b];omega)) ?_
   refine⟨by rw[e1];omega,Z2 (show (kx keep)[((i:Int).tmod ((kx keep).length:Int)).toNat]?=some [.raw (.bool b)] by
    rw[e1,k0u,kx,k1z,hk];rfl) ?_⟩
   refine y8 (u9 (fun hb=>?_) (fun hb=>?_))
   ·refine y7 hT ?_
    refine Q1 (Z7 [0,1,2] (x0u { D with cells:=C } x hin.1 (by show x.at_.toNat<C.length;omega)) rfl rfl rfl) ?_
    refine y7 hT ?_
    refine⟨n - 1,by omega,_,z8 [0,1,2] [0,1,9,10,11] rfl,i+1,_,q3e C x,by omega,?_,?_,rfl⟩
    ·rw[Q0 _ (by omega) (by omega)];rfl
    ·exact(out _ (hkept.trans hb))
   ·refine x7 ?_
    refine y7 hT ?_
    refine⟨n - 1,by omega,_,z8 [0,1,2] [0,1,9,10,11] rfl,i+1,_,C,by omega,?_,?_,rfl⟩
    ·rw[Q0 _ (by omega) (by omega)];rfl
    ·exact(out _ (hkept.trans hb))
  ·have hk:kept keep i=false:=by
    have:¬ ((kx keep).length:Int) > 0:=k0y h1
    rw[x4b]at this
    unfold kept;rw[k1s (by omega)];rfl
   refine y8 ?_
   refine x7 ?_
   refine y7 hT ?_
   refine⟨n - 1,by omega,_,z8 [0,1,2] [0,1,9,10,11] rfl,i+1,_,C,by omega,?_,?_,rfl⟩
   ·rw[Q0 _ (by omega) (by omega)];rfl
   ·exact(out _ hk)
 ·refine Q7 ?_
  refine y7 hT ?_
  have hi:i=D.waits.length:=by
   have:¬ ((i:Int)<(D.waits.length:Int)):=k0y h
   omega
  refine⟨_,_,Wk.trans (W8 Y4 2) (Wk.trans (U2 0 [.msl 1 4 0 C.length,.msl 3 2 0 0,bl D.armed,bl D.dead,i64 D.left,i64 D.ops] rfl ⟨.inl rfl,.inr (.inr (.inl ⟨3,2,0,rfl,rfl⟩)),.inl rfl,.inl rfl,.inl rfl,.inl rfl,trivial⟩) (z8 [0,1,3] [0] rfl)),rfl,?_⟩
  rw[hC,hi]
  rfl
def Dev.flush (D:Dev):Int × Dev:=match D.dead with
 |true=>(21,D)
 |false=>match D.lives.dead with
  |true=>(21,D.lives)
  |false=>(0,D.lives.drain [true])
theorem not_not {b c:Bool}(h:(!(!b))=c):b=c:=by rw[Bool.not_not]at h;exact h
theorem y6p (D:Dev)(hw:D.waitsIn)(hn:D.waits.length≤1000000):AFm k0q 1 z9b [.ref 0 0] (Y3 D) (Q9 (i64 D.flush.1) (Y3 D.flush.2)):=by
 refine Z6 1 hT Tryz.func60 rfl rfl Tryz.ntmps60 rfl rfl ?_
 refine y6 hT ?_
 refine u6 (y6 hT ?_)
 refine Q1 (Z7 [0,1,2] (z5m D) rfl rfl rfl) ?_
 refine u9 (fun h=>?_) (fun h=>?_)
 ·refine y8 ?_
  refine y6 hT ?_
  refine u5 ?_
  have e:D.flush=(21,D):=by unfold Dev.flush;rw[h]
  rw[e]
  exact x8 [0,1,2] ⟨rfl,rfl⟩ rfl
 ·refine Q1 (Z7 [0,1,2] (y6k D) rfl rfl rfl) ?_
  refine y8 (u9 (fun h1=>?_) (fun h1=>?_))
  ·have e:D.flush=(21,D.lives):=by unfold Dev.flush;rw[h,not_not h1]
   refine y6 hT ?_
   refine u5 ?_
   rw[e]
   exact x8 [0,1,2] ⟨rfl,rfl⟩ rfl
  ·have e:D.flush=(0,D.lives.drain [true]):=by unfold Dev.flush;rw[h,not_not h1]
   refine x7 ?_
   refine u6 (X6 (fun k=>Nat.beq 1 k) hT ?_)
   refine⟨⟨rfl,rfl⟩,?_⟩
   refine Q1 (Z7 [0,1,2] (w2q D.lives [true] hw hn) rfl rfl rfl) ?_
   refine y6 hT ?_
   refine u5 ?_
   rw[e]
   exact x8 [0,3,4] ⟨rfl,rfl⟩ rfl
theorem y6q (D:Dev)(i:Nat)(c:Cell):Y3 { D with cells:=D.cells.set i c }=[q2x D 1 2,.row Y7 4 ((cx D.cells).set (0+i) c.pv),.row Y4 2 (wx D.waits)]:=by
 unfold Y3 q2x;rw[Nat.zero_add,← w2p,List.length_set]
theorem u1n (l:List Wr)(x:Wr):wx (l++[x])=wx l++[x.pv]:=by simp[wx]
theorem v4a (D:Dev)(x:Wr):Y3 { D with waits:=D.waits++[x] }=[.cells z4a [.msl 1 4 0 D.cells.length,.msl 2 2 0 (wx D.waits++[x.pv]).length,bl D.armed,bl D.dead,i64 D.left,i64 D.ops],.row Y7 4 (cx D.cells),.row Y4 2 (wx D.waits++[x.pv])]:=by
 unfold Y3 q2x;rw[← u1n,y1w]
def Dev.put (D:Dev)(a:Int)(s:x9):Dev:=match D.cells[a.toNat]? with
 |none=>D
 |some c=>match decide (c.drop > 0) with
  |true=>{ D with cells:=D.cells.set a.toNat { c with drop:=IntKind.i64.wrap (c.drop - 1) } }
  |false=>match c.miss with
   |[]=>{ D with waits:=D.waits++[⟨a,s⟩] }
   |t :: r=>{ D with cells:=D.cells.set a.toNat { c with miss:=r },waits:=D.waits++[⟨t,s⟩] }
def Dev.count (D:Dev):Dev:={ D with ops:=IntKind.i64.wrap (D.ops+1) }
def Dev.write (D:Dev)(a:Int)(s:x9):Int × Dev:=match D.dead with
 |true=>(21,D)
 |false=>match D.has a with
  |false=>(3,D)
  |true=>match ((s.length:Int) != 256) with
   |true=>(1,D)
   |false=>match D.lives.dead with
    |true=>(21,D.lives)
    |false=>(0,D.lives.count.put a s)
theorem x7m {D:Dev}{a:Int}{s c1:x9}{c2:Bool}{c3:Int}{c4:List Int}(hc:D.cells[a.toNat]?=some ⟨c1,c2,c3,c4⟩)(h:decide (c3 > 0)=true) :
 D.put a s = { D with cells:=D.cells.set a.toNat ⟨c1,c2,IntKind.i64.wrap (c3 - 1),c4⟩ }:=by
 unfold Dev.put;rw[hc];simp only[h]
theorem x7n {D:Dev}{a:Int}{s c1:x9}{c2:Bool}{c3 t:Int}{r:List Int}(hc:D.cells[a.toNat]?=some ⟨c1,c2,c3,t :: r⟩)(h:decide (c3 > 0)=false) :
 D.put a s = { D with cells:=D.cells.set a.toNat ⟨c1,c2,c3,r⟩,waits:=D.waits++[⟨t,s⟩] }:=by
 unfold Dev.put;rw[hc];simp only[h]
theorem x0v {D:Dev}{a:Int}{s c1:x9}{c2:Bool}{c3:Int}(hc:D.cells[a.toNat]?=some ⟨c1,c2,c3,[]⟩)(h:decide (c3 > 0)=false) :
 D.put a s = { D with waits:=D.waits++[⟨a,s⟩] }:=by
 unfold Dev.put;rw[hc];simp only[h]
theorem y6r (D:Dev)(a:Int)(s:x9)(hn:D.waits.length≤1000000):AFm k0q 1 q9b [.ref 0 0,i64 a,bA s] (Y3 D) (Q9 (i64 (D.write a s).1) (Y3 (D.write a s).2)):=by
 refine Z6 1 hT Tryz.func59 rfl rfl Tryz.ntmps59 rfl rfl ?_
 refine y6 hT ?_
 refine u0 ⟨⟨84,[(0,.ref 0 0),(1,i64 a),(2,bA s)]⟩,Y3 D.lives⟩ (D.dead=false∧D.has a=true∧s.length=256∧D.lives.dead=false) (x3 (y6 hT ?_)) ?_
 ·refine Q1 (Z7 [0,1,2] (z5m D) rfl rfl rfl) ?_
  refine y8 (u9 (fun h=>?_) (fun h=>?_))
  ·have e:D.write a s=(21,D):=by unfold Dev.write;rw[h]
   refine y6 hT ?_
   refine u5 ?_
   rw[e]
   exact x8 [0,1,2] ⟨rfl,rfl⟩ rfl
  refine y6 hT ?_
  refine Q1 (Z7 [0,1,2] (z9m D a) rfl rfl rfl) ?_
  refine y8 (u9 (fun h1=>?_) (fun h1=>?_))
  ·have h1:(!(D.has a))=true:=h1
   have e:D.write a s=(3,D):=by unfold Dev.write;rw[h,(Bool.not_eq_true' _).mp h1]
   refine y6 hT ?_
   refine u5 ?_
   rw[e]
   exact x8 [0,1,2] ⟨rfl,rfl⟩ rfl
  have h1:D.has a=true:=(Bool.not_eq_false' _).mp h1
  refine y6 hT ?_
  refine y8 (u9 (fun h2=>?_) (fun h2=>?_))
  ·have e:D.write a s=(1,D):=by
    have h2:(((bx s).length:Int) != 256)=true:=h2
    rw[Z1]at h2
    unfold Dev.write;rw[h,h1,h2]
   refine y6 hT ?_
   refine u5 ?_
   rw[e]
   exact x8 [0,1,2] ⟨rfl,rfl⟩ rfl
  have h2:((s.length:Int) != 256)=false:=by
   have h2:(((bx s).length:Int) != 256)=false:=h2
   rw[Z1]at h2;exact h2
  refine y6 hT ?_
  refine Q1 (Z7 [0,1,2] (y6k D) rfl rfl rfl) ?_
  refine y8 (u9 (fun h3=>?_) (fun h3=>?_))
  ·have e:D.write a s=(21,D.lives):=by unfold Dev.write;rw[h,h1,h2,not_not h3]
   refine y6 hT ?_
   refine u5 ?_
   rw[e]
   exact x8 [0,1,2] ⟨rfl,rfl⟩ rfl
  refine x7 ⟨z8 [0,1,2] [0,1,2] rfl,h,h1,?_,not_not h3⟩
  have:(s.length:Int)=256:=by simpa using h2
  omega
 ·rintro⟨h,h1,h2,h3⟩
  have e:D.write a s=(0,D.lives.count.put a s):=by
   unfold Dev.write;rw[h,h1,show ((s.length:Int) != 256)=false by rw[h2];rfl,h3]
  rw[e]
  have hlt:a.toNat<D.cells.length∧0≤a∧a<(D.cells.length:Int):=by
   have h1:(decide (a≥0)&&decide (a<(D.cells.length:Int)))=true:=h1
   rw[k1u,decide_eq_true_eq,decide_eq_true_eq]at h1
   omega
  have hc:=k0w hlt.1
  generalize D.cells[a.toNat]=c at hc
  obtain⟨c1,c2,c3,c4⟩:=c
  have g1:(cx D.cells)[0+a.toNat]?=some (Cell.pv ⟨c1,c2,c3,c4⟩):=by rw[Nat.zero_add];exact y6m hc
  have g2:∀ e,((cx D.cells).set (0+a.toNat) e)[0+a.toNat]?=some e:=fun e=>by
   rw[Nat.zero_add];exact k2y (by rw[x4a];exact hlt.1)
  refine y6 hT ?_
  refine y6 hT ?_
  refine⟨⟨hlt.2.1,hlt.2.2⟩,?_⟩
  refine Q4 (fun s1=>∃ C b,s1=⟨⟨84,[(0,.ref 0 0),(1,i64 b),(2,bA s)]⟩,Y3 { D.lives.count with cells:=C }⟩∧D.lives.count.put a s = { D.lives.count with cells:=C,waits:=D.waits++[⟨b,s⟩] }) (x3 (y6 hT ?_)) ?_
  ·refine Z2 g1 ?_
   refine y8 (u9 (fun h4=>?_) (fun h4=>?_))
   ·have h4:decide (c3 > 0)=true:=h4
    have ep:D.lives.count.put a s = { D.lives.count with cells:=D.cells.set a.toNat ⟨c1,c2,IntKind.i64.wrap (c3 - 1),c4⟩ }:=x7m (D:=D.lives.count) hc h4
    refine y6 hT ?_
    refine Z2 g1 ?_
    refine Z2 g1 ?_
    refine y6 hT ?_
    refine u5 ?_
    rw[ep]
    exact x8 [0,1,2] ⟨rfl,(y6q D.lives.count a.toNat ⟨c1,c2,IntKind.i64.wrap (c3 - 1),c4⟩).symm⟩ rfl
   ·have h4:decide (c3 > 0)=false:=h4
    refine y6 hT ?_
    refine Z2 g1 ?_
    refine y8 (u9 (fun h5=>?_) (fun h5=>?_))
    ·cases c4 with
     |nil=>cases h5
     |cons t r=>
      have ep:D.lives.count.put a s = { D.lives.count with cells:=D.cells.set a.toNat ⟨c1,c2,c3,r⟩,waits:=D.waits++[⟨t,s⟩] }:=x7n (D:=D.lives.count) hc h4
      refine Z0 [15] [] hT u7 (by rfl) ?_
      refine Z2 g1 ?_
      refine⟨Int.le_refl _,Z2 rfl ?_⟩
      refine Z2 g1 ?_
      refine⟨⟨by omega,by rw[y1v];simp;omega,Int.le_refl _⟩,?_⟩
      refine Z2 g1 ?_
      refine⟨_,z8 [0,1,2] [0,1,2] rfl,D.cells.set a.toNat ⟨c1,c2,c3,r⟩,t,?_,ep⟩
      refine congrArg (St.mk _) ?_
      refine Eq.trans ?_ (y6q D.lives.count a.toNat ⟨c1,c2,c3,r⟩).symm
      show [_,ABlk.row Y7 4 ((cx D.cells).set (0+a.toNat) [bP c1,.raw (.bool c2),.raw (.int .i64 c3),.sl 1 ((ix r).take (ix r).length)]),_]=_
      rw[List.take_length]
      rfl
    ·have h5:¬ ((ix c4).length:Int) > 0:=k0y h5
     have hc4:c4=[]:=by cases c4 with|nil=>rfl|cons t r=>exact absurd (show ((ix (t :: r)).length:Int) > 0 by rw[y1v];simp) h5
     subst hc4
     refine x7 ⟨_,z8 [0,1,2] [0,1,2] rfl,D.cells,a,rfl,x0v (D:=D.lives.count) hc h4⟩
  ·rintro _ ⟨C,b,rfl,ep⟩
   rw[ep]
   refine u6 ?_
   refine Z0 [9,10,13] [] hT u7 (by rfl) ?_
   refine⟨_,Q5 (z0f s (by omega)) _ rfl rfl,?_⟩
   refine⟨y1w _,⟨?_,?_⟩,?_⟩
   ·show ((wx D.waits).length+1)*32≤140737488355328
    rw[y1w];omega
   ·show (wx D.waits).length+1≤140737488355328
    rw[y1w];omega
   refine⟨rfl,?_⟩
   refine y6 hT ?_
   refine u5 ?_
   exact x8 [0,1,4] ⟨rfl,(v4a { D.lives.count with cells:=C } ⟨b,s⟩).symm⟩ rfl
def y2w:x9:=List.replicate 256 0
abbrev cell0:Cell:=⟨[],false,0,[]⟩
abbrev cell1:Cell:=⟨y2w,false,0,[]⟩
def Dev.new (n:Nat):Dev:=⟨List.replicate n cell1,[],false,false,0,0⟩
def z7p (n i:Nat):List Cell:=List.replicate i cell1++List.replicate (n - i) cell0
theorem v4b {n i:Nat}(h:i≤n):(z7p n i).length=n:=by simp[z7p];omega
theorem v4c {n i:Nat}(h:i<n):(z7p n i)[i]?=some cell0:=by
 unfold z7p;rw[k1q (by simp)]
 rw[k2z,Nat.sub_self,show n - i=(n - i - 1)+1 by omega];rfl
theorem v4d {n i:Nat}(h:i<n):(z7p n i).set i cell1=z7p n (i+1):=by
 unfold z7p
 rw[List.set_append_right _ _ (by simp),k2z,Nat.sub_self,show n - i=(n - (i+1))+1 by omega,List.replicate_succ,List.replicate_succ']
 simp
theorem v4e (n:Nat)(h1:1≤n)(h2:n≤4096):AF k0q w2e [i64 n] [] (Q9 (.tup [.ref 0 0,i64 0]) (Y3 (Dev.new n))):=by
 refine Q8 hT Tryz.func57 rfl rfl Tryz.ntmps57 rfl ?_
 refine y6 hT ?_
 refine u6 (y6 hT ?_)
 refine u9 (fun h1=>?_) (fun h1=>?_)
 ·have:=k0z h1
  omega
 refine y8 (u9 (fun h2=>?_) (fun h2=>?_))
 ·have h2:decide ((n:Int) > 4096)=true:=h2
  have:=k0z h2
  omega
 refine x7 ?_
 refine y6 hT ?_
 refine⟨⟨rfl,by omega,(show ((n:Nat):Int)*64≤140737488355328 by omega),by omega⟩,?_⟩
 refine Z3 (Wk.trans (v3g 0 (cx (z7p n 0)) rfl ?_ ?_) (Wk.trans (W8 Y4 2) (Wk.trans (U2 1 [.msl 0 4 0 n,.msl 2 2 0 0,bl false,bl false,i64 0,i64 0] rfl ⟨.inl rfl,.inr (.inr (.inl ⟨2,2,0,rfl,rfl⟩)),.inl rfl,.inl rfl,.inl rfl,.inl rfl,trivial⟩) (z8 [1,0,2] [4] rfl)))) ?_
 ·show (cx (z7p n 0)).length=(List.replicate ((n:Int).toNat) _).length
  rw[x4a,v4b (Nat.zero_le n),k2z];omega
 ·intro j e2 hj
  have hx:cx (z7p n 0)=List.replicate n cell0.pv:=by simp[cx,z7p]
  rw[hx]at hj
  have hjn:j<n:=by have:=(k0t.1 hj).1;simpa using this
  have:e2=cell0.pv:=by
   rw[List.getElem?_replicate,if_pos hjn]at hj
   exact(k0x hj).symm
  subst this
  refine⟨[.raw (.slice none 0 0),.raw (.bool false),.raw (.int .i64 0),.raw (.slice none 0 0)],?_,rfl,?_⟩
  ·show (List.replicate ((n:Int).toNat) _)[j]?=_
   rw[List.getElem?_replicate,if_pos (by omega)];rfl
  ·intro i u2 hu
   match i,hu with
   |0,hu=>exact⟨_,rfl,.inr ⟨1,rfl,(k0x hu).symm⟩⟩
   |1,hu=>exact⟨_,rfl,.inl (k0x hu).symm⟩
   |2,hu=>exact⟨_,rfl,.inl (k0x hu).symm⟩
   |3,hu=>exact⟨_,rfl,.inr ⟨1,rfl,(k0x hu).symm⟩⟩
 refine u6 (y6 hT ?_)
 refine x3 ?_
 refine Q3 (fun r s=>∃ (i:Nat) (j:Int) (C:List Cell),r+i=n∧j=i∧C=z7p n i∧s=⟨⟨34,[(4,.ref 0 0),(20,i64 (n:Nat)),(21,i64 j)]⟩,[.cells z4a [.msl 1 4 0 n,.msl 2 2 0 0,bl false,bl false,i64 0,i64 0],.row Y7 4 (cx C),.row Y4 2 []]⟩) n ⟨⟨34,_⟩,[_,_,_]⟩ (z8 [0,1,2] [4,20,21] rfl) ⟨0,_,_,rfl,rfl,rfl,rfl⟩ ?_
 rintro r s ⟨i,j,C,hr,rfl,hC,rfl⟩
 refine y6 hT ?_
 refine u6 (y8 (u9 (fun h=>?_) (fun h=>?_)))
 ·refine x7 ?_
  have hi:i<n:=by simpa using h
  refine u6 (x3 (y6 hT ?_))
  refine Z0 [5,8] [5] hT u7 (by rfl) ?_
  have hg:(cx C)[0+((i:Nat):Int).toNat]?=some cell0.pv:=by
   rw[hC,k0u,Nat.zero_add];exact y6m (v4c hi)
  refine⟨⟨rfl,by omega,by decide,by omega⟩,?_⟩
  refine⟨⟨rfl,List.length_replicate.symm⟩,?_⟩
  refine⟨⟨k2w _,by omega⟩,?_⟩
  refine Z2 hg ?_
  refine y4v rfl (Z2 rfl ?_)
  refine⟨rfl,?_⟩
  refine y7 hT ?_
  refine⟨n - (i+1),by omega,_,z8 [0,1,2] [4,20,21] rfl,i+1,IntKind.i64.wrap ((i:Int)+1),z7p n (i+1),by omega,?_,rfl,?_⟩
  ·rw[Q0 _ (by omega) (by omega)];rfl
  ·refine congrArg (St.mk _) ?_
   have e:cx (z7p n (i+1))=(cx C).set (0+((i:Nat):Int).toNat) cell1.pv:=by
    rw[← v4d hi,← hC,w2p,k0u,Nat.zero_add]
   rw[e]
   refine congrArg (fun z=>[_,ABlk.row Y7 4 ((cx C).set (0+((i:Nat):Int).toNat) [.sl 1 z,_,_,_]),_]) ?_
   show List.replicate 256 [PV.raw (.int .u8 0)]=bx (List.replicate 256 0)
   rw[bx,List.map_replicate];rfl
 ·refine Q7 ?_
  refine y6 hT ?_
  refine u5 ?_
  have hi:i=n:=by
   have:¬ i<n:=by simpa using h
   omega
  have hx:C=List.replicate n cell1:=by rw[hC,hi];simp[z7p]
  refine x8 [0,1,2] ⟨rfl,?_⟩ rfl
  rw[hx]
  unfold Y3 q2x Dev.new
  rw[k2z]
  rfl
end Go.Proofs.YtkjklhcfgbaceaaGreat.AL
namespace Go.Proofs.YtkjklhcfgbaceaaGreat.AL
open Go
theorem x0w {n:Nat}:∀ {l:List AV},(∀ u∈l,U1 n u=true)→J0 n l=true
 |[],_=>rfl
 |x :: r,h=>by
  simp only[J0,Bool.and_eq_true]
  exact⟨h x (by simp),x0w fun u hu=>h u (by simp[hu])⟩
theorem z1t {k n:Nat}{l:List (Nat × AV)}(h:q7e k l=true):J0 k (U8 n l)=true:=by
 refine x0w fun u hu=>?_
 unfold U8 at hu
 rw[List.mem_map]at hu
 obtain⟨t,_,rfl⟩:=hu
 cases e:W4 l t with
 |none=>rfl
 |some u=>exact z3t h e
theorem y2x {n:Nat}{x:ABlk}:∀ {H:List ABlk},q4k n H=true→x3f n x=true→q4k n (H++[x])=true
 |[],_,h=>by simp[q4k,h]
 |y :: r,h,hx=>by
  simp only[q4k,Bool.and_eq_true,List.cons_append]at h ⊢
  exact⟨h.1,y2x h.2 hx⟩
theorem x0x {m:Nat}{s:St}(M:Nat)(ks:List Nat){q:RecK}{st:LoopState}{pe:Option Code}{l:List AV}(hM:s.H[M]?=some (.lp q st pe l))(hl:J0 (M+1) l=true)
 (hm:Nat.ble m (M+1)=true) (hf:q7e (M+1) (q3s s.fr.l ks)=true) (hb:q4k (M+1) (s.H.take M)=true) :
 Wk m s ⟨⟨s.fr.n,q3s s.fr.l ks⟩,s.H.take (M+1)⟩:=by
 have hlt:M<s.H.length:=(k0t.1 hM).1
 refine z8u (M+1) ks hm (by rw[Nat.ble_eq];omega) hf ?_
 rw[k2t,hM]
 exact y2x hb hl
theorem y4e {m:Nat}{s:St}(ks:List Nat):Wk m s ⟨⟨s.fr.n,q3s s.fr.l ks⟩,s.H⟩:=fun _ _ I ι _ hs hm=>
 ⟨I,ι,hs.turn ⟨hs.fr.1,fun i u hu=>hs.fr.2 i u (q5e hu)⟩ hs.H (Ex.refl hm),Ex.refl hm⟩
theorem y1x {P:Program}{α β:Type}{M n:Nat}{q:RecK}{lf:List (Nat × AV)}{args:List AV}{J:ABlk→α→List ABlk}{Z:ABlk→β→List ABlk}{a:α}{Rnd:α→Prop}{Stp:Code→β→Prop}
 (hJ:∀ L a,(J L a)[M]?=some L∧∀ L',(J L a).set M L'=J L' a) (hZ:∀ L z,(Z L z)[M]?=some L∧∀ L',(Z L z).set M L'=Z L' z)
 (hlf:∀ t u,W4 lf t=some u→t<n) (hps:∀ p∈q.ps.toList,p<n) (hpa:q.ps.size=args.length) (hbf:q7e (M+1) lf=true)
 (hround:∀ B l,J0 (M+1) l=true→AW P (some B) (M+1) q.assign ⟨⟨n,z8w lf q.ps.toList args⟩,J (.lp q .ready none l) a⟩
  (z8j (fun s1=>s1.H[M]?=some (.lp q .ready none l)∧AW P (some B) (M+1) q.body ⟨s1.fr,s1.H.set M (.lp q .busy none l)⟩ (w2c M J Z (.lp q .busy none l) Rnd Stp)) (fun _ _=>False))) :
 AYm P (M+1) M args (J (.lp q .ready none (U8 n lf)) a) (fun r H'=>(r=.p (.raw (.bool true))∧∃ a',Rnd a'∧H'=J (.lp q .ready none (U8 n lf)) a')∨(r=.p (.raw (.bool false))∧∃ c z,Stp c z∧H'=Z (.lp q .done (some c) (U8 n lf)) z)):=
 v3n hJ hZ hlf hps hpa fun B=>hround B _ (z1t hbf)
theorem AYm.mono {P:Program}{m b:Nat}{args:List AV}{H:List ABlk}{R R':AV→List ABlk→Prop}(h:AYm P m b args H R)(hR:∀ r H',R r H'→R' r H'):AYm P m b args H R':=
 fun w I ι vals B hn ha hs hb=>let ⟨fn,tmps,assign,body,h1,h2⟩:=h w I ι vals B hn ha hs hb
  ⟨fn,tmps,assign,body,h1,h2.mono fun _ _ ⟨v,r,H',I',ι',e,hr,k⟩=>⟨v,r,H',I',ι',e,hR _ _ hr,k⟩⟩
theorem y6s {m:Nat}{s:St}(b k:Nat){t:TypeId}{sz:Nat}{xs:List (List PV)}(hb:s.H[b]?=some (.row t sz xs)):Wk m s ⟨s.fr,s.H.set b (.row t sz (xs.take k))⟩:=fun N w I ι a hs hm=>by
 have hlive:live s.H b:=⟨_,hb,rfl⟩
 have hlv:∀ c,live (s.H.set b (.row t sz (xs.take k))) c→live s.H c:=fun c hc=>q2k hc hlive
 have hsim:SimH w I ι (s.H.set b (.row t sz (xs.take k))):=by
  refine⟨fun c k' hc=>?_,fun c c' B hc hc'=>hs.H.inj c c' B (hlv c hc) (hlv c' hc'),hs.H.Ilt,fun c hc=>hs.H.dom c (by simpa using hc),hs.H.rng⟩
  by_cases e:c=b
  ·subst e
   rw[k2y (J6 hlive)]at hc
   obtain rfl:=k0x hc
   rcases hs.H.blk c _ hb with ⟨g1,g2⟩|⟨B,cs,g1,g2,g3,g4,g5,g6⟩
   ·subst g1
    exact .inl ⟨List.take_nil,g2⟩
   ·have hle:(xs.take k).length≤xs.length:=by rw[k2u];omega
    refine .inr ⟨B,cs,g1,g2,g3,Nat.le_trans (k2v _ hle) g4,by omega,fun j e2 hj=>g6 j e2 ?_⟩
    have hj2:j<k:=by have:=(k0t.1 hj).1;rw[k2u]at this;omega
    rw[List.getElem?_take_of_lt hj2]at hj
    exact hj
  ·rw[k3z (by omega)]at hc
   exact hs.H.blk c k' hc
 have hx:Ex m w I ι s.H w I ι (s.H.set b (.row t sz (xs.take k))):=⟨⟨rfl,rfl,rfl,k1v _,Shape.refl w,fun _ h=>h,fun _ _ _=>rfl,fun _ h=>.inl h,fun c B hc h=>.inr ⟨c,hlv c hc,h⟩⟩,fun _ _=>rfl,by simpa using hm⟩
 exact⟨I,ι,hs.turn hs.fr hsim hx,hx⟩
theorem u1p {m:Nat}{s:St}(b:Nat){t:TypeId}{l:List AV}(ps:List PV)(hb:s.H[b]?=some (.cells t l))(hl:l=ps.map .p)(hn:Nat.ble ps.length 140737488355328=true) :
 Wk m s ⟨s.fr,s.H.set b (.row t 1 (ps.map fun p=>[p]))⟩:=fun N w I ι a hs hm=>by
 have hlive:live s.H b:=⟨_,hb,rfl⟩
 have hlv:∀ c,live (s.H.set b (.row t 1 (ps.map fun p=>[p]))) c→live s.H c:=fun c hc=>q2k hc hlive
 have hsim:SimH w I ι (s.H.set b (.row t 1 (ps.map fun p=>[p]))):=by
  refine⟨fun c k' hc=>?_,fun c c' B hc hc'=>hs.H.inj c c' B (hlv c hc) (hlv c' hc'),hs.H.Ilt,fun c hc=>hs.H.dom c (by simpa using hc),hs.H.rng⟩
  by_cases e:c=b
  ·subst e
   rw[k2y (J6 hlive)]at hc
   obtain rfl:=k0x hc
   obtain⟨B,cs,g1,g2,g3,g4,g5⟩:=hs.H.blk c _ hb
   rw[hl,k1x]at g4
   refine .inr ⟨B,cs,g1,g2,g3,by rw[k1x];omega,by rw[k1x];exact Nat.le_of_ble_eq_true hn,fun j e2 hj=>?_⟩
   rw[k1z]at hj
   cases hp:ps[j]? with
   |none=>rw[hp]at hj;cases hj
   |some p=>
    rw[hp]at hj
    obtain rfl:=k0x hj
    refine⟨rfl,fun i u hu=>?_⟩
    cases i with
    |succ i=>simp at hu
    |zero=>
     obtain rfl:p=u:=by simpa using hu
     have:=g5 j (.p p) (by rw[hl,k1z,hp];rfl)
     rw[Nat.mul_one,Nat.add_zero]
     cases this with
     |p h=>exact h
  ·rw[k3z (by omega)]at hc
   exact hs.H.blk c k' hc
 have hx:Ex m w I ι s.H w I ι (s.H.set b (.row t 1 (ps.map fun p=>[p]))):=⟨⟨rfl,rfl,rfl,k1v _,Shape.refl w,fun _ h=>h,fun _ _ _=>rfl,fun _ h=>.inl h,fun c B hc h=>.inr ⟨c,hlv c hc,h⟩⟩,fun _ _=>rfl,by simpa using hm⟩
 exact⟨I,ι,hs.turn hs.fr hsim hx,hx⟩
theorem u1q {m:Nat}{s:St}(i b sz:Nat)(h:W4 s.fr.l i=some (.ref b 0)):Wk m s ⟨⟨s.fr.n,(i,.elr b sz 0 0) :: s.fr.l⟩,s.H⟩:=fun N w I ι a hs hm=>by
 refine⟨I,ι,hs.turn ⟨hs.fr.1,fun j u hu=>?_⟩ hs.H (Ex.refl hm),Ex.refl hm⟩
 by_cases e:i=j
 ·subst e
  rw[U3]at hu;obtain rfl:=k0x hu
  have:=hs.fr.2 i _ h
  generalize a.tmps.getD i undef=v at this ⊢
  cases this with
  |ref _ _ B hB =>
   have k:=ARep.elr (w:=w) (I:=I) b sz 0 0 B hB
   simpa using k
 ·rw[V4 _ _ e]at hu;exact hs.fr.2 j u hu
end Go.Proofs.YtkjklhcfgbaceaaGreat.AL
namespace Go.Proofs.YtkjklhcfgbaceaaGreat.AL
open Go Go.Proofs
def q7k (hit:Wr→Bool):List Wr→Option Wr
 |[]=>none
 |x :: r=>match q7k hit r with
  |some y=>some y
  |none=>match hit x with|true=>some x|false=>none
theorem y6t (hit:Wr→Bool)(x:Wr):∀ l,q7k hit (l++[x])=match hit x with|true=>some x|false=>q7k hit l
 |[]=>by cases h:hit x <;> simp[q7k,h]
 |y :: r=>by
  simp only[List.cons_append,q7k,y6t hit x r]
  cases hit x <;> rfl
theorem y6u (hit:Wr→Bool){l:List Wr}{i:Nat}{x:Wr}(h:l[i]?=some x):q7k hit (l.take (i+1))=match hit x with|true=>some x|false=>q7k hit (l.take i):=by
 rw[k2t,h];exact y6t hit x _
theorem v4f (l:List Wr):AFm k0q 1 q7g [.msl 0 2 0 l.length] [.row Y4 2 (wx l)] (Q9 (.clo (.func q2a) [.ref 1 0]) [.row Y4 2 (wx l),.cells q8d [.msl 0 2 0 l.length]]):=by
 refine Z6 1 hT Tryz.func73 rfl rfl Tryz.ntmps73 rfl rfl ?_
 refine y6 hT ?_
 refine y6 hT ?_
 refine u5 ?_
 exact x8 [0,1] ⟨rfl,rfl⟩ rfl
abbrev y6v (D:Dev)(a:Int)(L:ABlk):List ABlk:=[q2x D 1 2,.row Y7 4 (cx D.cells),.row Y4 2 (wx D.waits),.cells V1 [i64 a],.cells y9 [.p (.raw (.slice none 0 0))],.cells q1j [i64 0],.cells q8d [.msl 2 2 0 D.waits.length],L]
abbrev w5n (D:Dev)(a:Int)(s:x9)(L:ABlk):List ABlk:=[q2x D 1 2,.row Y7 4 (cx D.cells),.row Y4 2 (wx D.waits),.cells V1 [i64 a],.cells y9 [bA s],.cells q1j [i64 0],.cells q8d [.msl 2 2 0 D.waits.length],L]
theorem v4g (D:Dev)(a:Int)(q:RecK)(l:List AV)(hn:D.waits.length≤1000000)(hit:Wr→Bool)(S:Code→x9→Prop)
 (hy:∀ (i:Nat) (x:Wr),D.waits[i]?=some x→AYm k0q 8 7 [i64 i,.agg [i64 x.at_,bA x.s]] (y6v D a (.lp q .ready none l)) (fun r H'=>(r=bl true∧hit x=false∧H'=y6v D a (.lp q .ready none l))∨(r=bl false∧hit x=true∧∃ c,S c x.s∧H'=w5n D a x.s (.lp q .done (some c) l)))) :
 AFm k0q 8 q2a [.yld 7,.ref 6 0] (y6v D a (.lp q .ready none l)) (fun _ H'=>(q7k hit D.waits=none∧H'=y6v D a (.lp q .ready none l))∨(∃ x c,q7k hit D.waits=some x∧S c x.s∧H'=w5n D a x.s (.lp q .done (some c) l))):=by
 refine Z6 8 hT Tryz.func123 rfl rfl Tryz.ntmps123 rfl rfl ?_
 refine y6 hT ?_
 refine x3 ?_
 refine Q3 (fun n s=>∃ j:Int,j=(n:Int) - 1∧n≤D.waits.length∧q7k hit D.waits=q7k hit (D.waits.take n)∧s=⟨⟨19,[(0,.yld 7),(1,.ref 6 0),(3,i64 j)]⟩,y6v D a (.lp q .ready none l)⟩) D.waits.length ⟨⟨19,_⟩,_⟩ (y4e [0,1,3]) ⟨_,?_,k1v _,by rw[List.take_length],rfl⟩ ?_
 ·exact Q0 _ (by omega) (by omega)
 rintro n s ⟨j,hj,hle,hl,rfl⟩
 refine u6 (y6 hT ?_)
 refine y8 (u9 (fun h=>?_) (fun h=>?_))
 ·have h:=k0z h
  cases n with
  |zero=>omega
  |succ n=>
  have hj:j=(n:Int):=by omega
  subst hj
  have hx:=k0w (show n<D.waits.length by omega)
  generalize D.waits[n]=x at hx
  refine x7 ?_
  refine u6 (x3 (y6 hT ?_))
  refine⟨⟨k2w _,by omega⟩,?_⟩
  refine Z2 (show (wx D.waits)[0+((n:Nat):Int).toNat]?=some x.pv by rw[Nat.zero_add,k0u];exact y6n hx) ?_
  refine⟨_,hy n x hx,?_⟩
  rintro r H' (⟨rfl,hh,rfl⟩|⟨rfl,hh,c,hT,rfl⟩)
  ·refine y8 ?_
   refine x7 ?_
   refine y7 hT ?_
   refine⟨n,by omega,_,y4e [0,1,3],_,?_,by omega,?_,rfl⟩
   ·exact Q0 _ (by omega) (by omega)
   ·rw[hl,y6u hit hx,hh]
  ·refine y8 ?_
   refine u5 ?_
   refine⟨_,_,Wk.refl _ _,.inr ⟨x,c,?_,hT,rfl⟩⟩
   rw[hl,y6u hit hx,hh]
 ·have h:=k0y h
  refine Q7 ?_
  have hn0:n=0:=by omega
  subst hn0
  exact⟨_,_,Wk.refl _ _,.inl ⟨hl,rfl⟩⟩
abbrev q5n (a:Int):Wr→Bool:=fun x=>x.at_==a
def Dev.readAt (D:Dev)(a:Int):Int × x9:=match q7k (q5n a) D.waits with
 |some x=>(0,x.s)
 |none=>match D.cells[a.toNat]? with
  |some c=>match c.lost with|true=>(20,[])|false=>(0,c.s)
  |none=>(20,[])
def Dev.read (D:Dev)(a:Int):(x9 × Int) × Dev:=match D.dead with
 |true=>(([],21),D)
 |false=>match D.has a with
  |false=>(([],3),D)
  |true=>(((D.readAt a).2,(D.readAt a).1),D.count)
theorem y1y (D:Dev)(a:Int)(hn:D.waits.length≤1000000)(hs:∀ x∈D.waits,x.s.length≤1000000)(hc:∀ c∈D.cells,c.s.length≤1000000) :
 AFm k0q 3 q6b [.ref 0 0,i64 a] (Y3 D) (Q9 (.tup [bA (D.read a).1.1,i64 (D.read a).1.2]) (Y3 (D.read a).2)):=by
 refine Z6 3 hT Tryz.func44 rfl rfl Tryz.ntmps44 rfl rfl ?_
 refine y6 hT ?_
 refine u0 ⟨⟨54,[(0,.ref 0 0),(3,.ref 3 0),(4,.ref 4 0),(5,.ref 5 0)]⟩,[q2x D 1 2,.row Y7 4 (cx D.cells),.row Y4 2 (wx D.waits),.cells V1 [i64 a],.cells y9 [.p (.raw (.slice none 0 0))],.cells q1j [i64 0]]⟩ (D.dead=false∧D.has a=true) (x3 (y6 hT ?_)) ?_
 ·refine Q1 (Z7 [0,1,2] (z5m D) rfl rfl rfl) ?_
  refine y8 (u9 (fun h=>?_) (fun h=>?_))
  ·have e:D.read a=(([],21),D):=by unfold Dev.read;rw[h]
   refine y6 hT ?_
   refine Z3 (U2 4 [.p (.sl 1 [])] rfl ⟨.inr (.inr (.inr ⟨1,rfl,rfl⟩)),trivial⟩) ?_
   refine u5 ?_
   rw[e]
   exact x8 [0,1,2] ⟨rfl,rfl⟩ rfl
  refine y6 hT ?_
  refine Q1 (Z7 [0,1,2] (z9m D a) rfl rfl rfl) ?_
  refine y8 (u9 (fun h1=>?_) (fun h1=>?_))
  ·have e:D.read a=(([],3),D):=by unfold Dev.read;rw[h,(Bool.not_eq_true' _).mp h1]
   refine y6 hT ?_
   refine Z3 (U2 4 [.p (.sl 1 [])] rfl ⟨.inr (.inr (.inr ⟨1,rfl,rfl⟩)),trivial⟩) ?_
   refine u5 ?_
   rw[e]
   exact x8 [0,1,2] ⟨rfl,rfl⟩ rfl
  exact x7 ⟨z8 [0,1,2,3,4,5] [0,3,4,5] rfl,h,(Bool.not_eq_false' _).mp h1⟩
 ·rintro⟨h,h1⟩
  have e:D.read a=(((D.readAt a).2,(D.readAt a).1),D.count):=by unfold Dev.read;rw[h,h1]
  rw[e]
  clear e
  have hlt:a.toNat<D.cells.length∧0≤a∧a<(D.cells.length:Int):=by
   have h1:(decide (a≥0)&&decide (a<(D.cells.length:Int)))=true:=h1
   rw[k1u,decide_eq_true_eq,decide_eq_true_eq]at h1
   omega
  have hcg:=k0w hlt.1
  have hcs:=hc _ (k1w hlt.1)
  generalize D.cells[a.toNat]=c at hcg hcs
  have g1:(cx D.cells)[0+a.toNat]?=some c.pv:=by rw[Nat.zero_add];exact y6m hcg
  refine y6 hT ?_
  refine u6 (y6 hT ?_)
  refine Q1 (Z7 [2] (v4f D.waits) rfl rfl rfl) ?_
  refine x3 ?_
  refine z1k 7 54 [0,1,2,3,4,5,6,7] [0,3,4,5,27] (fun L (_:Unit)=>y6v D.count a L) (fun L s=>w5n D.count a s L) () (fun _=>q7k (q5n a) D.waits=none) (fun c z=>c=.ret∧∃ x,q7k (q5n a) D.waits=some x∧z=x.s) rfl rfl (fun L _=>⟨rfl,fun _=>rfl⟩) (fun L _=>⟨rfl,fun _=>rfl⟩) rfl ?_ ?_ ?_
  ·refine AFm.mono (v4g D.count a _ _ hn (q5n a) (fun c z=>c=.ret) ?_) ?_
   ·intro i x hx
    refine AYm.mono (y1x (J:=fun L (_:Unit)=>y6v D.count a L) (Z:=fun L s=>w5n D.count a s L) (a:=()) (Rnd:=fun _=>q5n a x=false) (Stp:=fun c z=>c=.ret∧q5n a x=true∧z=x.s) (fun L _=>⟨rfl,fun _=>rfl⟩) (fun L _=>⟨rfl,fun _=>rfl⟩) ?_ ?_ rfl rfl ?_) ?_
    ·exact fun t u ht=>z3u (ks:=[0,3,4,5,27]) rfl ht
    ·show ∀ p∈[28,29],p<54
     decide
    ·intro B l hbl
     have hsx:=hs x (k2x (show D.waits[i]?=some x from hx))
     refine y7 hT ?_
     refine⟨rfl,?_⟩
     refine x3 (y6 hT ?_)
     refine y8 (u9 (fun h2=>?_) (fun h2=>?_))
     ·refine y6 hT ?_
      refine Q1 (Q5 (z0f x.s hsx) _ rfl rfl) ?_
      refine u5 ?_
      exact⟨x.s,_,⟨rfl,h2,rfl⟩,x0x 7 [] rfl hbl rfl rfl rfl⟩
     ·refine x7 ?_
      exact⟨(),_,h2,x0x 7 [] rfl hbl rfl rfl rfl⟩
    ·rintro r H' (⟨hr,_,hh,hH⟩|⟨hr,c,z,⟨h3,h4,h5⟩,hH⟩)
     ·exact .inl ⟨hr,hh,hH⟩
     ·subst h5;exact .inr ⟨hr,h4,c,h3,hH⟩
   ·rintro r H' (⟨hx,rfl⟩|⟨x,c,hx,rfl,rfl⟩)
    ·exact .inl ⟨(),hx,rfl⟩
    ·exact .inr ⟨_,_,⟨rfl,x,hx,rfl⟩,rfl⟩
  ·intro _ hl
   refine u6 (u6 ?_)
   refine Z0 [] [] hT u7 (by rfl) ?_
   refine⟨⟨hlt.2.1,hlt.2.2⟩,?_⟩
   refine Z2 g1 ?_
   have e:D.readAt a=match c.lost with|true=>(20,[])|false=>(0,c.s):=by unfold Dev.readAt;rw[hl,hcg]
   refine y8 (u9 (fun h2=>?_) (fun h2=>?_))
   ·have h2:c.lost=true:=h2
    rw[h2]at e
    refine y6 hT ?_
    refine Z3 (U2 4 [.p (.sl 1 [])] rfl ⟨.inr (.inr (.inr ⟨1,rfl,rfl⟩)),trivial⟩) ?_
    refine u5 ?_
    rw[e]
    exact x8 [0,1,2] ⟨rfl,rfl⟩ rfl
   ·have h2:c.lost=false:=h2
    rw[h2]at e
    refine x7 ?_
    refine u6 ?_
    refine Z0 [9,10] [] hT u7 (by rfl) ?_
    refine⟨⟨hlt.2.1,hlt.2.2⟩,?_⟩
    refine Z2 g1 ?_
    refine⟨_,Q5 (z0f c.s hcs) _ rfl rfl,?_⟩
    refine u5 ?_
    rw[e]
    exact x8 [0,1,2] ⟨rfl,rfl⟩ rfl
  ·rintro _ z ⟨rfl,x,hx,rfl⟩
   refine u5 ?_
   have e:D.readAt a=(0,x.s):=by unfold Dev.readAt;rw[hx]
   rw[e]
   exact x8 [0,1,2] ⟨rfl,rfl⟩ rfl
abbrev z3a (D:Dev):List ABlk:=[q2x D 1 2,.row Y7 4 (cx D.cells),.row Y4 2 (wx D.waits),.cells V3 [.ref 0 0]]
abbrev v8d (a:Int):AV:=.clo (.func q3d) [.p (.box [.raw (.int .i64 a)]),.ref 3 0]
def Dev.hits (D:Dev)(a:Int)(x:Wr):Dev:=match q5n a x with|true=>D.done x|false=>D
theorem x7p (D:Dev)(a:Int)(x:Wr)(h0:0≤x.at_)(h1:x.at_.toNat<D.cells.length) :
 AFm k0q 4 q3d [.agg [i64 x.at_,bA x.s],.p (.box [.raw (.int .i64 a)]),.ref 3 0] (z3a D) (Q9 (bl (q5n a x)) (z3a (D.hits a x))):=by
 refine Z6 4 hT Tryz.func122 rfl rfl Tryz.ntmps122 rfl rfl ?_
 refine y6 hT ?_
 refine Z3 (Z4 4 [.raw (.int .i64 x.at_),bP x.s] rfl rfl) ?_
 refine u0 ⟨⟨16,[(1,.p (.box [.raw (.int .i64 a)])),(3,.p (.box [.raw (.int .i64 x.at_),bP x.s]))]⟩,z3a (D.hits a x)⟩ True (y6 hT ?_) (fun _=>?_)
 ·refine y8 (u9 (fun h=>?_) (fun h=>?_))
  ·have h:q5n a x=true:=h
   refine y7 hT ?_
   refine Q1 (Z7 [0,1,2] (x0u D x h0 h1) rfl rfl rfl) ?_
   refine⟨?_,trivial⟩
   have e:D.hits a x=D.done x:=by unfold Dev.hits;rw[h]
   rw[e]
   exact z8 [0,1,2,3] [1,3] rfl
  ·have h:q5n a x=false:=h
   refine x7 ⟨?_,trivial⟩
   have e:D.hits a x=D:=by unfold Dev.hits;rw[h]
   rw[e]
   exact z8 [0,1,2,3] [1,3] rfl
 ·refine y6 hT ?_
  refine u5 ?_
  exact x8 [0,1,2,3] ⟨rfl,rfl⟩ rfl
theorem v4h (D:Dev)(a:Int)(hw:D.waitsIn)(hn:D.waits.length≤1000000) :
 AFm k0q 4 q6v [.msl 2 2 0 D.waits.length,v8d a] (z3a D) (fun r H'=>(r=i64 (-1)∧(∀ x∈D.waits,q5n a x=false)∧H'=z3a D) ∨
  (∃ (i:Nat) (x:Wr),D.waits[i]?=some x∧q5n a x=true∧(∀ y∈D.waits.take i,q5n a y=false)∧r=i64 i∧H'=z3a (D.done x))):=by
 refine Z6 4 hT Tryz.func166 rfl rfl Tryz.ntmps166 rfl rfl ?_
 refine y6 hT ?_
 refine u6 (y6 hT ?_)
 refine x3 ?_
 refine Q3 (fun n s=>∃ (i:Nat) (j:Int),n+i=D.waits.length∧j=i∧(∀ y∈D.waits.take i,q5n a y=false)∧s=⟨⟨19,[(0,.msl 2 2 0 D.waits.length),(1,v8d a),(7,i64 D.waits.length),(8,i64 j)]⟩,z3a D⟩) D.waits.length ⟨⟨19,_⟩,[_,_,_,_]⟩ (z8 [0,1,2,3] [0,1,7,8] rfl) ⟨0,_,by omega,rfl,fun y hy=>by simp at hy,rfl⟩ ?_
 rintro n s ⟨i,j,hni,rfl,hl,rfl⟩
 refine y6 hT ?_
 refine u6 (y8 (u9 (fun h=>?_) (fun h=>?_)))
 ·have hi:i<D.waits.length:=by
   have:=k0z (show decide ((i:Int)<(D.waits.length:Int))=true from h)
   omega
  have hx:=k0w hi
  have hin:=hw _ (k1w hi)
  generalize D.waits[i]=x at hx hin
  refine x7 ?_
  refine u6 (x3 (y6 hT ?_))
  refine y6 hT ?_
  refine⟨⟨k2w _,k0z h⟩,?_⟩
  refine Z2 (show (wx D.waits)[0+((i:Nat):Int).toNat]?=some x.pv by rw[Nat.zero_add,k0u];exact y6n hx) ?_
  refine Q1 (x7p D a x hin.1 (by omega)) ?_
  refine y8 (u9 (fun h2=>?_) (fun h2=>?_))
  ·have e:D.hits a x=D.done x:=by unfold Dev.hits;rw[h2]
   refine y6 hT ?_
   refine u5 ?_
   refine⟨_,_,z8 [0,1,2,3] [0] rfl,.inr ⟨i,x,hx,h2,hl,rfl,?_⟩⟩
   rw[← e];rfl
  ·have e:D.hits a x=D:=by unfold Dev.hits;rw[h2]
   refine x7 ?_
   refine y7 hT ?_
   refine⟨n - 1,by omega,_,z8 [0,1,2,3] [0,1,7,8] rfl,i+1,IntKind.i64.wrap ((i:Int)+1),by omega,?_,?_,?_⟩
   ·rw[Q0 _ (by omega) (by omega)];rfl
   ·intro y hy
    rw[k2t,hx,List.mem_append]at hy
    rcases hy with hy|hy
    ·exact hl y hy
    ·have:y=x:=by simpa using hy
     rw[this];exact h2
   ·refine congrArg (St.mk _) ?_
    show z3a (D.hits a x)=z3a D
    rw[e]
 ·refine Q7 ?_
  have hi:i=D.waits.length:=by
   have:¬ ((i:Int)<(D.waits.length:Int)):=k0y h
   omega
  refine y6 hT ?_
  refine u5 ?_
  refine⟨_,_,z8 [0,1,2,3] [0] rfl,.inl ⟨rfl,?_,rfl⟩⟩
  rw[hi,List.take_length]at hl
  exact hl
def q1w (a:Int)(W:List Wr)(C:List Cell):List Cell:=W.foldl (fun C x=>match q5n a x with|true=>q3e C x|false=>C) C
def q2j (a:Int)(W:List Wr):List Wr:=W.filter fun x=>!q5n a x
def Dev.settle (D:Dev)(a:Int):Dev:={ D with cells:=q1w a D.waits D.cells,waits:=q2j a D.waits }
theorem z1u (a:Int)(W:List Wr)(x:Wr)(C:List Cell):q1w a (W++[x]) C=match q5n a x with|true=>q3e (q1w a W C) x|false=>q1w a W C:=by
 unfold q1w;rw[List.foldl_append];rfl
theorem q9d (a:Int)(W:List Wr):∀ C,(q1w a W C).length=C.length:=by
 induction W with
 |nil=>intro C;rfl
 |cons x r ih=>
  intro C
  show (q1w a r (match q5n a x with|true=>q3e C x|false=>C)).length=_
  rw[ih];split
  ·exact z0g _ _
  ·rfl
theorem y6w {a:Int}{W:List Wr}(h:∀ x∈W,q5n a x=false)(C:List Cell):q1w a W C=C:=by
 induction W generalizing C with
 |nil=>rfl
 |cons x r ih=>
  show q1w a r (match q5n a x with|true=>q3e C x|false=>C)=_
  rw[h x (by simp)];exact ih (fun y hy=>h y (by simp[hy])) C
theorem z7q {a:Int}{W:List Wr}(h:∀ x∈W,q5n a x=false):q2j a W=W:=by
 unfold q2j;rw[List.filter_eq_self];intro x hx;rw[h x hx];rfl
theorem z1v (a:Int)(W:List Wr)(x:Wr):q2j a (W++[x])=match q5n a x with|true=>q2j a W|false=>q2j a W++[x]:=by
 unfold q2j;rw[List.filter_append]
 cases h:q5n a x <;> simp[h]
theorem w2r (a:Int)(W:List Wr):(q2j a W).length≤W.length:=List.length_filter_le _ _
abbrev u1r (D:Dev)(a:Int):List ABlk:=[q2x D 1 2,.row Y7 4 (cx (q1w a D.waits D.cells)),.row Y4 2 (wx (q2j a D.waits)),.cells V3 [.ref 0 0]]
theorem u1s (l:List Wr)(i:Nat)(c:Wr):wx (l.set i c)=(wx l).set i c.pv:=by simp[wx,List.map_set]
structure DelOk (D:Dev) (a:Int) (k j:Nat) (C:List Cell) (W:List Wr):Prop where
 len:W.length=D.waits.length
 kj:k<j
 jn:j≤D.waits.length
 C:C=q1w a (D.waits.take j) D.cells
 W1:W.take k=q2j a (D.waits.take j)
 W2:W.drop j=D.waits.drop j
theorem DelOk.hit {D:Dev}{a:Int}{k j:Nat}{C:List Cell}{W:List Wr}(h:DelOk D a k j C W){x:Wr}(hx:D.waits[j]?=some x)(hh:q5n a x=true):DelOk D a k (j+1) (q3e C x) W:=by
 have hjl:j<D.waits.length:=(k0t.1 hx).1
 refine⟨h.len,by have:=h.kj;omega,hjl,?_,?_,?_⟩
 ·rw[k2t,hx];show _=q1w a (_++[x]) _;rw[z1u,hh,← h.C]
 ·rw[k2t,hx];show _=q2j a (_++[x]);rw[z1v,hh,← h.W1]
 ·rw[← List.drop_drop,← List.drop_drop,h.W2]
theorem DelOk.miss {D:Dev}{a:Int}{k j:Nat}{C:List Cell}{W:List Wr}(h:DelOk D a k j C W){x:Wr}(hx:D.waits[j]?=some x)(hh:q5n a x=false):DelOk D a (k+1) (j+1) C (W.set k x):=by
 have hjl:j<D.waits.length:=(k0t.1 hx).1
 have hkj:=h.kj
 refine⟨by rw[List.length_set];exact h.len,by omega,hjl,?_,?_,?_⟩
 ·rw[k2t,hx];show _=q1w a (_++[x]) _;rw[z1u,hh,← h.C]
 ·rw[k2t (l:=D.waits),hx];show _=q2j a (_++[x]);rw[z1v,hh,← h.W1]
  rw[k2t,k2y (by rw[h.len];omega),List.take_set_of_le (k1v _)];rfl
 ·rw[List.drop_set_of_lt (by omega),← List.drop_drop,← List.drop_drop,h.W2]
theorem u2s {α β γ:Sort _}(f:α→β→γ){a a':α}{b b':β}(h:a=a')(k:b=b'):f a b=f a' b':=by rw[h,k]
theorem w7z {α:Type}(l:List α)(k:Nat)(vs:List α)(h:k≤l.length):(U0 l k vs).take k=l.take k:=by
 unfold U0
 rw[List.append_assoc,List.take_append_of_le_length (by rw[k2u];omega),List.take_take,Nat.min_self]
theorem x7q (D:Dev)(a:Int)(C:List Cell)(W:List Wr)(hC:C.length=D.cells.length)(hW:W.length=D.waits.length)(x:Wr)(h0:0≤x.at_)(h1:x.at_.toNat<D.cells.length)(b:Bool)(C':List Cell)
 (hb:q5n a x=b) (hC':C'=match b with|true=>q3e C x|false=>C) :
 AFm k0q 4 q3d [.agg [i64 x.at_,bA x.s],.p (.box [.raw (.int .i64 a)]),.ref 3 0] [q2x D 1 2,.row Y7 4 (cx C),.row Y4 2 (wx W),.cells V3 [.ref 0 0]]
  (Q9 (bl b) [q2x D 1 2,.row Y7 4 (cx C'),.row Y4 2 (wx W),.cells V3 [.ref 0 0]]):=by
 have h:=x7p { D with cells:=C,waits:=W } a x h0 (by show x.at_.toNat<C.length;omega)
 have e1:z3a { D with cells:=C,waits:=W }=[q2x D 1 2,.row Y7 4 (cx C),.row Y4 2 (wx W),.cells V3 [.ref 0 0]]:=by
  unfold z3a q2x;rw[hC,hW]
 have e2:z3a (({ D with cells:=C,waits:=W }:Dev).hits a x)=[q2x D 1 2,.row Y7 4 (cx C'),.row Y4 2 (wx W),.cells V3 [.ref 0 0]]:=by
  unfold Dev.hits
  rw[hb]
  cases b with
  |true=>
   have hC'':C'.length=D.cells.length:=by rw[hC'];exact(z0g C x).trans hC
   rw[hC']at hC'' ⊢
   unfold z3a q2x Dev.done
   rw[show (q3e C x).length=D.cells.length from hC'',hW]
  |false=>rw[hC'];exact e1
 rw[e1,e2,hb]at h
 exact h
theorem w8a (D:Dev)(a:Int)(hw:D.waitsIn)(hn:D.waits.length≤1000000) :
 AFm k0q 4 q6c [.msl 2 2 0 D.waits.length,v8d a] (z3a D) (Q9 (.msl 2 2 0 (q2j a D.waits).length) (u1r D a)):=by
 refine Z6 4 hT Tryz.func121 rfl rfl Tryz.ntmps121 rfl rfl ?_
 refine y6 hT ?_
 refine y6 hT ?_
 refine v9u (v4h D a hw hn) ?_
 rintro r H' (⟨rfl,hno,rfl⟩|⟨i,x,hx,hh,hno,rfl,rfl⟩)
 ·refine u6 (y6 hT ?_)
  refine y8 ?_
  refine y6 hT ?_
  refine u5 ?_
  refine x8 [0,1,2,3] ⟨?_,?_⟩ rfl
  ·rw[z7q hno];rfl
  ·show z3a D=u1r D a
   unfold z3a u1r
   rw[z7q hno,y6w hno]
 ·have hi:i<D.waits.length:=(k0t.1 hx).1
  refine u6 (y6 hT ?_)
  refine y8 ?_
  refine x7 ?_
  refine u6 (y6 hT ?_)
  refine x3 ?_
  refine Q3 (fun n s=>∃ (k j:Nat) (k' j':Int) (C:List Cell) (W:List Wr),n+j=D.waits.length∧k'=k∧j'=j∧DelOk D a k j C W∧s=⟨⟨42,[(0,.msl 2 2 0 D.waits.length),(1,v8d a),(5,i64 k'),(6,i64 j')]⟩,[q2x D 1 2,.row Y7 4 (cx C),.row Y4 2 (wx W),.cells V3 [.ref 0 0]]⟩) (D.waits.length - (i+1)) ⟨⟨42,_⟩,[_,_,_,_]⟩ (z8 [0,1,2,3] [0,1,5,6] rfl) ⟨i,i+1,i,IntKind.i64.wrap ((i:Int)+1),q3e D.cells x,D.waits,by omega,rfl,?_,?_,?_⟩ ?_
  ·rw[Q0 _ (by omega) (by omega)];rfl
  ·refine⟨rfl,by omega,hi,?_,?_,rfl⟩
   ·rw[k2t,hx];show _=q1w a (_++[x]) _;rw[z1u,hh,y6w hno]
   ·rw[k2t,hx];show _=q2j a (_++[x]);rw[z1v,hh,z7q hno]
  ·refine congrArg (St.mk _) ?_
   show z3a (D.done x)=_
   unfold z3a q2x
   rw[show (D.done x).cells.length=D.cells.length from z0g _ _]
   rfl
  rintro n s ⟨k,j,k',j',C,W,hnj,rfl,rfl,hd,rfl⟩
  refine u6 (y6 hT ?_)
  refine y8 (u9 (fun h=>?_) (fun h=>?_))
  ·have hj:j<D.waits.length:=by
    have:=k0z (show decide ((j:Int)<(D.waits.length:Int))=true from h)
    omega
   have hx2:=k0w hj
   have hin:=hw _ (k1w hj)
   generalize D.waits[j]=y at hx2 hin
   have hkj:=hd.kj
   have hy:W[j]?=some y:=by
    have:=congrArg (fun l=>l[0]?) hd.W2
    simpa [hx2] using this
   have hCl:C.length=D.cells.length:=by rw[hd.C,q9d]
   refine x7 ?_
   refine u6 (x3 (y6 hT ?_))
   refine⟨⟨k2w _,k0z h⟩,?_⟩
   refine Z2 (show (wx W)[0+((j:Nat):Int).toNat]?=some y.pv by rw[Nat.zero_add,k0u];exact y6n hy) ?_
   refine Z3 (Z4 4 [.raw (.int .i64 y.at_),bP y.s] rfl rfl) ?_
   refine y6 hT ?_
   cases hh:q5n a y with
   |true=>
    refine Q1 (Z7 [0,1,2,3] (x7q D a C W hCl hd.len y hin.1 (by omega) true (q3e C y) hh rfl) rfl rfl rfl) ?_
    refine y8 ?_
    refine x7 ?_
    refine y7 hT ?_
    refine⟨n - 1,by omega,_,z8 [0,1,2,3] [0,1,5,6] rfl,k,j+1,k,IntKind.i64.wrap ((j:Int)+1),q3e C y,W,by omega,rfl,?_,hd.hit hx2 hh,rfl⟩
    rw[Q0 _ (by omega) (by omega)];rfl
   |false=>
    refine Q1 (Z7 [0,1,2,3] (x7q D a C W hCl hd.len y hin.1 (by omega) false C hh rfl) rfl rfl rfl) ?_
    refine y8 ?_
    refine y6 hT ?_
    refine⟨⟨k2w _,by omega⟩,?_⟩
    refine Z2 (show (wx W)[0+((k:Nat):Int).toNat]?=some (W[k]'(by rw[hd.len];omega)).pv by rw[Nat.zero_add,k0u];exact y6n (k0w _)) ?_
    refine y4v rfl (Z2 rfl ?_)
    refine y7 hT ?_
    refine y7 hT ?_
    refine⟨n - 1,by omega,_,z8 [0,1,2,3] [0,1,5,6] rfl,k+1,j+1,IntKind.i64.wrap ((k:Int)+1),IntKind.i64.wrap ((j:Int)+1),C,W.set k y,by omega,?_,?_,hd.miss hx2 hh,?_⟩
    ·rw[Q0 _ (by omega) (by omega)];rfl
    ·rw[Q0 _ (by omega) (by omega)];rfl
    ·refine congrArg (St.mk _) ?_
     rw[u1s,show (wx W).set k y.pv=(wx W).set (0+((k:Nat):Int).toNat) y.pv by rw[k0u,Nat.zero_add]]
     rfl
  ·refine Q7 ?_
   have hj:j=D.waits.length:=by
    have:¬ ((j:Int)<(D.waits.length:Int)):=k0y h
    have:=hd.jn
    omega
   subst hj
   have hkj:=hd.kj
   refine y6 hT ?_
   refine⟨⟨k2w _,by omega,Int.le_refl _⟩,?_⟩
   refine⟨by rw[y1w,hd.len];simp;omega,?_⟩
   refine y6 hT ?_
   refine⟨⟨Int.le_refl _,k2w _,by omega⟩,?_⟩
   refine Z3 (y6s 2 k rfl) ?_
   refine u5 ?_
   have hk:=hd.W1
   rw[List.take_length]at hk
   have hkl:(q2j a D.waits).length=k:=by rw[← hk,k2u,hd.len];omega
   refine x8 [0,1,2,3] ⟨?_,?_⟩ rfl
   ·rw[hkl];rfl
   ·refine u2s (fun x y=>[q2x D 1 2,ABlk.row Y7 4 (cx x),ABlk.row Y4 2 y,ABlk.cells V3 [.ref 0 0]]) ?_ ?_
    ·rw[hd.C,List.take_length]
    ·show (U0 (wx W) (0+((k:Nat):Int).toNat) _).take k=_
     rw[Nat.zero_add,k0u,w7z _ _ _ (by rw[y1w,hd.len];omega),← hk]
     simp[wx]
theorem z4b (D:Dev)(a:Int)(hw:D.waitsIn)(hn:D.waits.length≤1000000):AFm k0q 3 z7g [.ref 0 0,i64 a] (Y3 D) (Q9 (.tup []) (Y3 (D.settle a))):=by
 refine Z6 3 hT Tryz.func69 rfl rfl Tryz.ntmps69 rfl rfl ?_
 refine y6 hT ?_
 refine Z3 (Z4 4 [.raw (.int .i64 a)] rfl rfl) ?_
 refine Z0 [6,9] [] hT u7 (by rfl) ?_
 refine⟨_,_,Z7 [0,1,2,3] (w8a D a hw hn) rfl rfl rfl,?_⟩
 refine⟨rfl,?_⟩
 refine x8 [0,1,2] ⟨rfl,?_⟩ rfl
 unfold Y3 q2x
 rw[show (D.settle a).cells.length=D.cells.length from q9d _ _ _]
 rfl
structure Flt where
 kind:Int
 at_:Int
 off:Int
 n:Int
 to:Int
 m0:UInt8
 m1:UInt8
 m2:UInt8
 m3:UInt8
 deriving DecidableEq
abbrev Flt.pv (f:Flt):List PV:=[.raw (.int .i64 f.kind),.raw (.int .i64 f.at_),.raw (.int .i64 f.off),.raw (.int .i64 f.n),.raw (.int .i64 f.to),u8 f.m0,u8 f.m1,u8 f.m2,u8 f.m3]
abbrev Flt.av (f:Flt):AV:=.agg [i64 f.kind,i64 f.at_,i64 f.off,i64 f.n,i64 f.to,.p (u8 f.m0),.p (u8 f.m1),.p (u8 f.m2),.p (u8 f.m3)]
def Dev.upd (D:Dev)(a:Int)(g:Cell→Cell):Dev:={ D with cells:=D.cells.modify a.toNat g }
theorem y2y {l:List Cell}{i:Nat}{c:Cell}(g:Cell→Cell)(h:l[i]?=some c):l.modify i g=l.set i (g c):=by
 apply List.ext_getElem?
 intro j
 rw[List.getElem?_modify,List.getElem?_set]
 by_cases e:i=j
 ·subst e
  rw[if_pos rfl,if_pos (k0t.1 h).1,h];simp
 ·simp[e]
theorem z4c (D:Dev)(a:Int)(g:Cell→Cell){c:Cell}(h:D.cells[a.toNat]?=some c):Y3 (D.upd a g)=[q2x D 1 2,.row Y7 4 ((cx D.cells).set (0+a.toNat) (g c).pv),.row Y4 2 (wx D.waits)]:=by
 rw[← y6q D a.toNat (g c)]
 unfold Dev.upd
 rw[y2y g h]
theorem q9e {D:Dev}{a:Int}(h:D.has a=true):a.toNat<D.cells.length∧0≤a∧a<(D.cells.length:Int):=by
 have h1:(decide (a≥0)&&decide (a<(D.cells.length:Int)))=true:=h
 rw[k1u,decide_eq_true_eq,decide_eq_true_eq]at h1
 omega
theorem q8f (D:Dev){a:Int}(h:D.has a=true):∃ c,D.cells[a.toNat]?=some c∧(cx D.cells)[0+a.toNat]?=some c.pv:=by
 have hc:=k0w (q9e h).1
 exact⟨_,hc,by rw[Nat.zero_add];exact y6m hc⟩
theorem q4n (D:Dev)(a b:Int):(D.settle a).has b=D.has b:=by
 unfold Dev.has;rw[show (D.settle a).cells.length=D.cells.length from q9d _ _ _]
theorem bx_zeros:bx y2w=List.replicate 256 [PV.raw (.int .u8 0)]:=by
 unfold y2w bx;rw[List.map_replicate];rfl
theorem w8b (D:Dev)(f:Flt)(hw:D.waitsIn)(hn:D.waits.length≤1000000)(hh:D.has f.at_=true) :
 AFm k0q 3 y1j [.ref 0 0,f.av] (Y3 D) (Q9 (.tup []) (Y3 ((D.settle f.at_).upd f.at_ fun c=>{ c with lost:=true }))):=by
 refine Z6 3 hT Tryz.func41 rfl rfl Tryz.ntmps41 rfl rfl ?_
 refine y6 hT ?_
 refine Z3 (Z4 3 f.pv rfl rfl) ?_
 refine y6 hT ?_
 refine Q1 (Z7 [0,1,2] (z4b D f.at_ hw hn) rfl rfl rfl) ?_
 have hlt:=q9e ((q4n D f.at_ f.at_).trans hh)
 obtain⟨c,hc,g1⟩:=q8f (D.settle f.at_) ((q4n D f.at_ f.at_).trans hh)
 refine Z0 [8] [] hT u7 (by rfl) ?_
 refine⟨⟨hlt.2.1,hlt.2.2⟩,?_⟩
 refine Z2 g1 ?_
 exact x8 [0,1,2] ⟨rfl,(z4c (D.settle f.at_) f.at_ (fun c=>{ c with lost:=true }) hc).symm⟩ rfl
theorem w2s (D:Dev)(f:Flt)(hw:D.waitsIn)(hn:D.waits.length≤1000000)(hh:D.has f.at_=true) :
 AFm k0q 3 z8y [.ref 0 0,f.av] (Y3 D) (Q9 (.tup []) (Y3 ((D.settle f.at_).upd f.at_ fun c=>{ c with s:=y2w,lost:=false }))):=by
 refine Z6 3 hT Tryz.func40 rfl rfl Tryz.ntmps40 rfl rfl ?_
 refine y6 hT ?_
 refine Z3 (Z4 3 f.pv rfl rfl) ?_
 refine y6 hT ?_
 refine Q1 (Z7 [0,1,2] (z4b D f.at_ hw hn) rfl rfl rfl) ?_
 have hlt:=q9e ((q4n D f.at_ f.at_).trans hh)
 obtain⟨c,hc,g1⟩:=q8f (D.settle f.at_) ((q4n D f.at_ f.at_).trans hh)
 have g2:∀ e,((cx (D.settle f.at_).cells).set (0+f.at_.toNat) e)[0+f.at_.toNat]?=some e:=fun e=>by
  rw[Nat.zero_add];exact k2y (by rw[x4a];exact hlt.1)
 refine Z0 [15,18] [12] hT u7 (by rfl) ?_
 refine⟨⟨rfl,by omega,by decide,by omega⟩,?_⟩
 refine⟨⟨rfl,List.length_replicate.symm⟩,?_⟩
 refine⟨⟨hlt.2.1,hlt.2.2⟩,?_⟩
 refine Z2 g1 ?_
 refine y4v rfl (Z2 rfl ?_)
 refine⟨⟨hlt.2.1,hlt.2.2⟩,?_⟩
 refine Z2 (g2 _) ?_
 refine⟨rfl,?_⟩
 refine x8 [0,1,2] ⟨rfl,?_⟩ rfl
 refine Eq.trans ?_ (z4c (D.settle f.at_) f.at_ (fun c=>{ c with s:=y2w,lost:=false }) hc).symm
 refine Eq.trans (congrArg (fun z=>[q2x (D.settle f.at_) 1 2,ABlk.row Y7 4 z,ABlk.row Y4 2 (wx (D.settle f.at_).waits)]) (List.set_set ..)) ?_
 refine congrArg (fun z=>[q2x (D.settle f.at_) 1 2,ABlk.row Y7 4 ((cx (D.settle f.at_).cells).set (0+f.at_.toNat) [.sl 1 z,.raw (.bool false),.raw (.int .i64 c.drop),iP c.miss]),ABlk.row Y4 2 (wx (D.settle f.at_).waits)]) ?_
 exact bx_zeros.symm
theorem w8c (D:Dev)(f:Flt)(hh:D.has f.at_=true) :
 AFm k0q 3 y1k [.ref 0 0,f.av] (Y3 D) (Q9 (.tup []) (Y3 (D.upd f.at_ fun c=>{ c with drop:=IntKind.i64.wrap (c.drop+f.n) }))):=by
 refine Z6 3 hT Tryz.func42 rfl rfl Tryz.ntmps42 rfl rfl ?_
 refine y6 hT ?_
 refine Z3 (Z4 3 f.pv rfl rfl) ?_
 have hlt:=q9e hh
 obtain⟨c,hc,g1⟩:=q8f D hh
 refine Z0 [14] [] hT u7 (by rfl) ?_
 refine⟨⟨hlt.2.1,hlt.2.2⟩,?_⟩
 refine Z2 g1 ?_
 refine⟨⟨hlt.2.1,hlt.2.2⟩,?_⟩
 refine Z2 g1 ?_
 exact x8 [0,1,2] ⟨rfl,(z4c D f.at_ (fun c=>{ c with drop:=IntKind.i64.wrap (c.drop+f.n) }) hc).symm⟩ rfl
theorem w8d (D:Dev)(f:Flt)(hh:D.has f.at_=true)(hm:∀ c∈D.cells,c.miss.length≤1000000) :
 AFm k0q 3 y1m [.ref 0 0,f.av] (Y3 D) (Q9 (.tup []) (Y3 (D.upd f.at_ fun c=>{ c with miss:=c.miss++[f.to] }))):=by
 refine Z6 3 hT Tryz.func43 rfl rfl Tryz.ntmps43 rfl rfl ?_
 refine y6 hT ?_
 refine Z3 (Z4 3 f.pv rfl rfl) ?_
 have hlt:=q9e hh
 obtain⟨c,hc,g1⟩:=q8f D hh
 have hcm:=hm _ (k2x hc)
 refine u6 ?_
 refine Z0 [] [] hT u7 (by rfl) ?_
 refine⟨⟨hlt.2.1,hlt.2.2⟩,?_⟩
 refine Z0 [5,9,12] [8,9] hT u7 (by rfl) ?_
 refine Z2 g1 ?_
 refine⟨_,_,q1h (w7y c.miss hcm) _ rfl,?_⟩
 refine⟨⟨rfl,rfl⟩,?_⟩
 refine⟨y1v _,⟨?_,?_⟩,?_⟩
 ·show ((ix c.miss).length+1)*8≤140737488355328
  rw[y1v];omega
 ·show (ix c.miss).length+1≤140737488355328
  rw[y1v];omega
 refine⟨⟨rfl,rfl⟩,?_⟩
 refine Z2 g1 ?_
 refine⟨rfl,?_⟩
 refine⟨⟨⟨rfl,rfl⟩,rfl⟩,?_⟩
 refine x8 [0,1,2] ⟨rfl,?_⟩ rfl
 refine Eq.trans ?_ (z4c D f.at_ (fun c=>{ c with miss:=c.miss++[f.to] }) hc).symm
 have e:ix (c.miss++[f.to])=ix c.miss++[[.raw (.int .i64 f.to)]]:=by simp[ix]
 show _=[_,ABlk.row Y7 4 ((cx D.cells).set (0+f.at_.toNat) [_,_,_,.sl 1 (ix (c.miss++[f.to]))]),_]
 rw[e]
 rfl
end Go.Proofs.YtkjklhcfgbaceaaGreat.AL
